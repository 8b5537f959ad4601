/-
  Names taken out of a row of one's own; what Body tells (layer 12). No conditions.
  What Body tells; the document's lists joined, and names taken out (layer 12). No conditions.
-/
import Derived.Test.YthpenpgcacikaaaVarD
import Derived.Test.YthpenpgcacikaaaRowk
namespace Go.Proofs.Ythpenpgcacikaaa
set_option linter.unusedSimpArgs false
set_option linter.unusedVariables false
open Go.RowKit

section
variable {X : Nat → Prop} {w : World} {v pv : Value} {l ps : List (List UInt8)} {q1 : Nat}
set_option maxRecDepth 100000 in
theorem body1_any (x : List UInt8) (hb : Blk w q1 #[pv] 25) (hp : RowS X w pv ps) :
    Calls Try.prog 23 #[.string ⟨x.toArray⟩, .pointer (some ⟨q1, 0, none⟩)] w fun r w' => r = .returned (.bool (decide (x ∈ ps))) ∧ Fr Nil w w' := by
  have HC := contains_any x hp
  obtain ⟨a, c, rfl⟩ := RowC.shape hp
  have c0 := hb.one
  have cl := hb.lt
  generalize ps.length = n at HC c0 hb
  generalize decide (x ∈ ps) = B at HC ⊢
  have HC := Lib.hid HC
  clear hb hp
  go_enter Try.func23, Try.ntmps23
  go_wp2_with fail
  refine HC.out.mono ?_
  rintro e w2 ⟨rfl, f2⟩
  go_wp2
  go_ret
  exact ⟨rfl, by (repeat (first | (with_reducible exact Fr.refl _ _) | (with_reducible assumption) | (with_reducible exact Fr.of_nil (by assumption)) | (with_reducible refine Fr.drew ?_) | (with_reducible refine Fr.drewN ?_ _) | (with_reducible refine Fr.alloc ?_ _) | (with_reducible refine Fr.set ?_ _ _ (by first | (intros; omega) | (simp; done) | (simp; omega))) | (with_reducible refine Fr.via ?_ (by assumption)) | (with_reducible refine Fr.comp ?_ (by assumption))))⟩
/-- Where the first of some names stands. -/
def IdxIn (ps l : List (List UInt8)) (i : Int) : Prop := (∃ k : Nat, ∃ h : k < l.length, i = (k : Int) ∧ (∀ x ∈ l.take k, x ∉ ps) ∧ l[k] ∈ ps) ∨ ((∀ x ∈ l, x ∉ ps) ∧ i = -1)
set_option maxRecDepth 100000 in
theorem idxS_any {X2 : Nat → Prop} (h : RowS X w v l) (hb : Blk w q1 #[pv] 25) (hp : RowS X2 w pv ps) :
    Calls Try.prog 34 #[v, .func (.func 23) #[] #[.pointer (some ⟨q1, 0, none⟩)]] w fun r w' => (∃ i : Int, r = .returned (.int .i64 i) ∧ IdxIn ps l i) ∧ Fr Nil w w' := by
  obtain ⟨av, cv, rfl⟩ := RowC.shape h
  obtain ⟨N, hN⟩ : ∃ N, l.length = N := ⟨_, rfl⟩
  have hml := RowS.len h
  rw [hN] at hml
  have hmx : N ≤ 9223372036854775807 := hml
  have HV := Lib.hid (And.intro (RowS.nocare h) (And.intro hN (And.intro hb hp)))
  rw [hN]
  have hE' := enters_of Try.func23 (by kernel_rfl) rfl
  clear h hN hml hb hp
  go_enter Try.func34, Try.ntmps34
  go_wp2_with fail
  go_loopg [8] N (fun g iv wr => ∃ k : Nat, g = N - k ∧ k ≤ N ∧ iv = .int .i64 (k : Int) ∧ Hid (∀ x ∈ l.take k, x ∉ ps) ∧ Fr Nil w wr)
  case atStart => exact ⟨0, rfl, by omega, rfl, Lib.hid (by simp), Fr.refl _ _⟩
  case round =>
    obtain ⟨k, rfl, hk, rfl, HT, hw⟩ := hrel
    have i0 : (0 : Int) ≤ (k : Int) := by omega
    by_cases hlt : k < N
    · have wk : IntKind.i64.wrap ((k : Int) + 1) = (k : Int) + 1 := by rw [IntKind.wrap_i64]; omega
      have hkL : k < l.length := by rw [HV.out.2.1]; exact hlt
      obtain ⟨b, off, rfl, _, p0⟩ := (RowS.fr HV.out.1 hw (fun _ q => q.elim)).cell k hkL
      obtain ⟨x, ex⟩ : ∃ x, l[k] = x := ⟨_, rfl⟩
      rw [ex] at p0
      have i1 : (k : Int) < (N : Int) := by omega
      have HE := Lib.hid ex
      have HC := body1_any x (hw.blk HV.out.2.2.1 (fun q => q)) (RowS.fr HV.out.2.2.2 hw (fun _ q => q.elim))
      clear ex
      by_cases q : x ∈ ps
      · rw [decide_eq_true q] at HC
        have HC := Lib.hid HC
        have HI := Lib.hid (show IdxIn ps l (k : Int) from .inl ⟨k, hkL, rfl, HT.out, by rw [HE.out]; exact q⟩)
        clear q
        go_wp2_with fail
        refine HC.out.mono ?_
        rintro e w2 ⟨rfl, f2⟩
        go_wp2
        go_ret
        exact ⟨⟨_, rfl, HI.out⟩, by (repeat (first | (with_reducible exact Fr.refl _ _) | (with_reducible assumption) | (with_reducible exact Fr.of_nil (by assumption)) | (with_reducible refine Fr.drew ?_) | (with_reducible refine Fr.drewN ?_ _) | (with_reducible refine Fr.alloc ?_ _) | (with_reducible refine Fr.set ?_ _ _ (by first | (intros; omega) | (simp; done) | (simp; omega))) | (with_reducible refine Fr.via ?_ (by assumption)) | (with_reducible refine Fr.comp ?_ (by assumption))))⟩
      · rw [decide_eq_false q] at HC
        have HC := Lib.hid HC
        have HQ : Hid (∀ y ∈ l.take (k + 1), y ∉ ps) := Lib.hid (fun y hy => by
          rw [List.take_succ_eq_append_getElem hkL] at hy
          rcases List.mem_append.1 hy with z | z
          · exact HT.out y z
          · rw [List.mem_singleton] at z
            rw [z, HE.out]
            exact q)
        clear q
        go_wp2_with fail
        refine HC.out.mono ?_
        rintro e w2 ⟨rfl, f2⟩
        go_wp2
        go_roundg (N - (k + 1))
        case rel => exact ⟨k + 1, rfl, by omega, by simp, HQ, by (repeat (first | (with_reducible exact Fr.refl _ _) | (with_reducible assumption) | (with_reducible exact Fr.of_nil (by assumption)) | (with_reducible refine Fr.drew ?_) | (with_reducible refine Fr.drewN ?_ _) | (with_reducible refine Fr.alloc ?_ _) | (with_reducible refine Fr.set ?_ _ _ (by first | (intros; omega) | (simp; done) | (simp; omega))) | (with_reducible refine Fr.via ?_ (by assumption)) | (with_reducible refine Fr.comp ?_ (by assumption))))⟩
        case measure => omega
    · have i1 : ¬ (k : Int) < (N : Int) := by omega
      have HQ : Hid (∀ x ∈ l, x ∉ ps) := Lib.hid (by have := HT.out; rw [List.take_of_length_le (by rw [HV.out.2.1]; omega)] at this; exact this)
      go_wp2
      go_ret
      exact ⟨⟨_, rfl, .inr ⟨HQ.out, rfl⟩⟩, by (repeat (first | (with_reducible exact Fr.refl _ _) | (with_reducible assumption) | (with_reducible exact Fr.of_nil (by assumption)) | (with_reducible refine Fr.drew ?_) | (with_reducible refine Fr.drewN ?_ _) | (with_reducible refine Fr.alloc ?_ _) | (with_reducible refine Fr.set ?_ _ _ (by first | (intros; omega) | (simp; done) | (simp; omega))) | (with_reducible refine Fr.via ?_ (by assumption)) | (with_reducible refine Fr.comp ?_ (by assumption))))⟩
end
theorem zeroCells_one (s : Value) (m : Nat) : (Builtin.zeroCells #[s] m).toList = List.replicate m s := by
  apply List.ext_getElem
  · simp [Builtin.zeroCells]
  · intro i h1 h2
    simp [Builtin.zeroCells, Nat.mod_one]
/-- What stands in a block, so many names having been looked at. -/
structure DelAt (w : World) (g cap : Nat) (l ps : List (List UInt8)) (i j : Nat) (cur : Array Value) (L : List (List UInt8)) : Prop where
  b : Blk w g cur 9
  sz : cur.size = cap
  tk : cur.toList.take l.length = strC L
  len : L.length = l.length
  done : L.take i = (l.take j).filter (fun x => decide (x ∉ ps))
  todo : L.drop j = l.drop j
theorem DelAt.cell {w : World} {g cap i j : Nat} {l ps L : List (List UInt8)} {cur : Array Value} (h : DelAt w g cap l ps i j cur L) (k : Nat) (hk : k < l.length) : cur[k]? = some (.string ⟨(L[k]'(by rw [h.len]; exact hk)).toArray⟩) := by
  have e := congrArg (fun z => z[k]?) h.tk
  simp only [List.getElem?_take_of_lt hk, Array.getElem?_toList] at e
  rw [e]
  simp [strC, h.len, hk]
theorem DelAt.skip {w : World} {g cap i j : Nat} {l ps L : List (List UInt8)} {cur : Array Value} (h : DelAt w g cap l ps i j cur L) (hj : j < l.length) (hx : l[j] ∈ ps) : DelAt w g cap l ps i (j + 1) cur L := by
  refine ⟨h.b, h.sz, h.tk, h.len, ?_, ?_⟩
  · rw [h.done, List.take_succ_eq_append_getElem hj, List.filter_append]
    simp [hx]
  · have e := congrArg (List.drop 1) h.todo
    simpa [List.drop_drop, Nat.add_comm] using e
theorem DelAt.put {w w' : World} {g cap i j : Nat} {l ps L : List (List UInt8)} {cur : Array Value} (h : DelAt w g cap l ps i j cur L) (hij : i < j) (hj : j < l.length) (hx : l[j] ∉ ps) (hb : Blk w' g (cur.setIfInBounds i (.string ⟨l[j].toArray⟩)) 9) : DelAt w' g cap l ps (i + 1) (j + 1) (cur.setIfInBounds i (.string ⟨l[j].toArray⟩)) (L.set i l[j]) := by
  have hiL : i < L.length := by rw [h.len]; omega
  refine ⟨hb, by simp [h.sz], ?_, by simp [h.len], ?_, ?_⟩
  · rw [Array.toList_setIfInBounds, List.take_set, h.tk]
    simp [strC, List.map_set]
  · rw [List.take_succ_eq_append_getElem hj, List.filter_append, ← h.done]
    rw [List.take_succ_eq_append_getElem (by simpa using hiL)]
    simp [hx, List.take_set_of_le]
  · rw [List.drop_set_of_lt (by omega)]
    have e := congrArg (List.drop 1) h.todo
    simpa [List.drop_drop, Nat.add_comm] using e
theorem DelAt.fr {w w' : World} {g cap i j : Nat} {l ps L : List (List UInt8)} {cur : Array Value} (h : DelAt w g cap l ps i j cur L) (f : Fr Nil w w') : DelAt w' g cap l ps i j cur L := ⟨f.blk h.b (fun q => q), h.sz, h.tk, h.len, h.done, h.todo⟩
section
variable {w : World} {v pv : Value} {l ps : List (List UInt8)} {q1 base : Nat}
set_option maxRecDepth 100000 in
set_option maxHeartbeats 4000000 in
theorem delete_any (own : w.ownsRow base 9 1 v l.length (strC l)) (hb : Blk w q1 #[pv] 25) (hp : RowS (fun b => base ≤ b) w pv ps) (hq : v.ownBlock ≠ some q1) (hl9 : l.length ≤ 1000000) :
    Calls Try.prog 22 #[v, .func (.func 23) #[] #[.pointer (some ⟨q1, 0, none⟩)]] w fun r w' => ∃ v', r = .returned v' ∧ RowS (fun b => b < base) w' v' (l.filter (fun x => decide (x ∉ ps))) ∧ Fr (fun k => v.ownBlock = some k) w w' := by
  have hrow : RowS (fun b => b < base) w v l := RowS.of_own own (fun _ q => q)
  have hI := idxS_any hrow hb hp
  have HI := Lib.hid hI
  have HP := Lib.hid (And.intro hrow (And.intro own (And.intro hb hp)))
  have hE' := enters_of Try.func23 (by kernel_rfl) rfl
  obtain ⟨R, hR⟩ : ∃ R, l.filter (fun x => decide (x ∉ ps)) = R := ⟨_, rfl⟩
  rw [hR]
  have HR := Lib.hid hR
  clear hI hrow hb hp hR own
  obtain ⟨va, vc, e⟩ := RowC.shape HP.out.1
  subst e
  obtain ⟨n, hn⟩ : ∃ n, l.length = n := ⟨_, rfl⟩
  have HN := Lib.hid hn
  rw [hn] at HI hq hl9 ⊢
  clear hn
  go_enter Try.func22, Try.ntmps22
  go_wp2_with fail
  refine HI.out.mono ?_
  rintro e w1 ⟨⟨i, rfl, hi⟩, f1⟩
  rcases hi with ⟨k, hk, rfl, ht, hx⟩ | ⟨ht, rfl⟩
  · -- from k on
    have hkn : k < n := by have := HN.out; omega
    obtain ⟨g, cap, cur, e0, hg, hB, h2, h3, h4, h5⟩ : ∃ g cap cur, Value.slice va n vc = .slice (some ⟨g, 0, none⟩) n cap ∧ base ≤ g ∧ Blk w g cur 9 ∧ n ≤ cap ∧ cap ≤ maxLen ∧ cur.size = cap ∧ cur.toList.take n = strC l := by
      have own := HP.out.2.1
      rw [HN.out] at own
      rcases own.2 with ⟨_, q⟩ | ⟨g, cap, cur, q1, q2, q3, q4, q5, q6, q7⟩
      · omega
      · exact ⟨g, cap, cur, q1, q2, q3, q4, q5, by simpa using q6, by simpa using q7⟩
    injection e0 with e1 e2 e3
    subst e1 e3
    have hgq : g ≠ q1 := fun q => hq (by rw [q]; rfl)
    have hst : DelAt w1 g vc l ps k (k + 1) cur l := by
      refine ⟨f1.blk hB (fun q => q), h4, by rw [HN.out]; exact h5, rfl, ?_, rfl⟩
      rw [List.take_succ_eq_append_getElem hk, List.filter_append, List.filter_eq_self.2 (fun a ha => by simpa using ht a ha)]
      simp [hx]
    have d0 : ((k : Int) == -1) = false := beq_false_of_ne (by omega)
    have wk : IntKind.i64.wrap ((k : Int) + 1) = (k : Int) + 1 := by rw [IntKind.wrap_i64]; omega
    have HS := Lib.hid (And.intro hst f1)
    have HG := Lib.hid (And.intro hg (And.intro h2 (And.intro h3 hgq)))
    clear hst f1 ht hx hg h3 h4 h5 hB
    go_wp2_with fail
    go_loopg [5, 6] (n - (k + 1)) (fun gm iv jv wr => ∃ (i j : Nat) (cr : Array Value) (L : List (List UInt8)), gm = n - j ∧ i < j ∧ j ≤ n ∧ iv = .int .i64 (i : Int) ∧ jv = .int .i64 (j : Int) ∧ Hid (DelAt wr g vc l ps i j cr L ∧ Fr (fun b => b = g) w wr))
    case atStart => exact ⟨k, k + 1, cur, l, rfl, by omega, by omega, rfl, by simp, Lib.hid ⟨HS.out.1, HS.out.2.of_nil⟩⟩
    case round =>
      obtain ⟨i, j, cr, L, rfl, hij, hjn, rfl, rfl, HT⟩ := hrel
      have j0 : (0 : Int) ≤ (j : Int) := by omega
      have i0 : (0 : Int) ≤ (i : Int) := by omega
      have cb := HT.out.1.b.lt
      have cf := HT.out.1.b.free
      by_cases hlt : j < n
      · have hjl : j < l.length := by rw [HN.out]; exact hlt
        have p0 : wr.cell? ⟨g, j, none⟩ = some (.string ⟨l[j].toArray⟩) := by
          have h := HT.out.1.cell j hjl
          rw [HT.out.1.b.cell, h]
          have e := congrArg (fun z => z[0]?) HT.out.1.todo
          simp only [List.getElem?_drop, Nat.add_zero] at e
          rw [List.getElem?_eq_getElem (by rw [HT.out.1.len]; exact hjl), List.getElem?_eq_getElem hjl] at e
          injection e with e
          rw [e]
        have p1 : ∃ u, wr.cell? ⟨g, i, none⟩ = some u := ⟨_, by rw [HT.out.1.b.cell]; exact HT.out.1.cell i (by omega)⟩
        obtain ⟨u, p1⟩ := p1
        obtain ⟨x, ex⟩ : ∃ x, l[j] = x := ⟨_, rfl⟩
        rw [ex] at p0
        have i1 : (j : Int) < (n : Int) := by omega
        have i2 : (i : Int) < (n : Int) := by omega
        have wj : IntKind.i64.wrap ((j : Int) + 1) = (j : Int) + 1 := by rw [IntKind.wrap_i64]; omega
        have wi : IntKind.i64.wrap ((i : Int) + 1) = (i : Int) + 1 := by rw [IntKind.wrap_i64]; omega
        have HE := Lib.hid ex
        have HC := body1_any x (HT.out.2.blk HP.out.2.2.1 (fun q => HG.out.2.2.2 q.symm)) (RowS.fr HP.out.2.2.2 HT.out.2 (fun b q => by subst q; exact HG.out.1))
        clear ex
        by_cases q : x ∈ ps
        · rw [decide_eq_true q] at HC
          have HC := Lib.hid HC
          have HD : Hid (DelAt wr g vc l ps i (j + 1) cr L) := Lib.hid (HT.out.1.skip hjl (by rw [HE.out]; exact q))
          clear q
          go_wp2_with fail
          refine HC.out.mono ?_
          rintro e w2 ⟨rfl, f2⟩
          go_wp2
          go_roundg (n - (j + 1))
          case rel => exact ⟨i, j + 1, cr, L, rfl, by omega, by omega, rfl, by simp, Lib.hid ⟨HD.out.fr f2, HT.out.2.via f2⟩⟩
          case measure => omega
        · rw [decide_eq_false q] at HC
          have HC := Lib.hid HC
          have HQ := Lib.hid q
          clear q
          go_wp2_with fail
          refine HC.out.mono ?_
          rintro e w2 ⟨rfl, f2⟩
          have cb2 := f2.lt cb
          have b2 := f2.blk HT.out.1.b (fun q => q)
          have cf2 := b2.free
          have p2 : w2.cell? ⟨g, i, none⟩ = some u := f2.cell p1 (fun q => q)
          have HB2 := Lib.hid (And.intro b2 f2)
          clear b2 f2 p1 p0 cb cf
          go_wp2
          go_roundg (n - (j + 1))
          case rel =>
            refine ⟨i + 1, j + 1, _, _, rfl, by omega, by omega, by simp, by simp, Lib.hid ⟨HT.out.1.put hij hjl (by rw [HE.out]; exact HQ.out) (by rw [HE.out]; exact HB2.out.1.store i _), (HT.out.2.via HB2.out.2).set _ _ (fun _ => rfl)⟩⟩
          case measure => omega
      · have i1 : ¬ (j : Int) < (n : Int) := by omega
        obtain rfl : n = j := by omega
        obtain ⟨m, hm⟩ : ∃ m, n - i = m := ⟨_, rfl⟩
        have hszc := HT.out.1.sz
        have hzc := Try.zeroValue9
        obtain ⟨W2, hW2⟩ : ∃ W2, wr.setCells g i (List.replicate m (.string ⟨#[]⟩)) = W2 := ⟨_, rfl⟩
        have hcl : ∀ (c : Nat) ty, (Builtin.clear_ #[25] ty #[.slice (some ⟨g, i, none⟩) m c]).run Try.prog wr = .ok (.tuple #[]) W2 := fun c ty => by
          rw [← hW2]
          refine run_clear_many wr _ ty _ _ Try.underlying25 Try.zeroValue9 g i m c (List.replicate m (.string ⟨#[]⟩)) (zeroCells_one _ _) (by intro v hv; rw [List.eq_of_mem_replicate hv]; rfl) (by omega) (fun j hj => ?_) (fun j _ => HT.out.1.b.free _)
          rw [HT.out.1.b.cell, Array.getElem?_eq_getElem (by simp at hj; omega)]
          rfl
        have hfW := setCells_fr g (List.replicate m (.string ⟨#[]⟩)) i wr
        have hbW := setCells_blk (List.replicate m (.string ⟨#[]⟩)) i wr cr HT.out.1.b (by simp; omega)
        rw [hW2] at hfW hbW
        have hres : RowS (fun b => b < base) W2 (.slice (some ⟨g, 0, none⟩) i vc) R := by
          have e : R = L.take i := by
            rw [HT.out.1.done, List.take_of_length_le (by rw [HN.out]; exact Nat.le_refl _)]
            exact HR.out.symm
          have hiL : i < L.length := by rw [HT.out.1.len, HN.out]; exact hij
          have el : R.length = i := by rw [e, List.length_take]; omega
          unfold RowS
          rw [el]
          refine ⟨_, vc, rfl, by have := HG.out.2.1; omega, HG.out.2.2.1, fun k hk => ⟨g, 0, rfl, fun q => by have := HG.out.1; omega, rfl, fun z u hz => ?_⟩⟩
          cases z with
          | succ z => simp at hz
          | zero =>
            simp only [List.getElem?_cons_zero, Option.some.injEq] at hz
            subst hz
            rw [hbW.cell]
            have hk2 : k < cr.toList.length := by rw [Array.length_toList, hszc]; have := HG.out.2.1; omega
            have h6 := HT.out.1.cell k (by rw [HN.out]; omega)
            simp only [Nat.zero_add, Nat.mul_one, Nat.add_zero, List.getElem?_toArray]
            unfold layL
            rw [List.append_assoc, List.getElem?_append_left (by rw [List.length_take]; omega), List.getElem?_take_of_lt hk, Array.getElem?_toList, h6]
            have e8 : R.getD k [] = L[k]'(by omega) := by
              have e7 : R[k]? = L[k]? := by rw [e, List.getElem?_take_of_lt hk]
              rw [List.getD_eq_getElem?_getD, e7, List.getElem?_eq_getElem (by omega)]
              rfl
            rw [e8]
        have HF := Lib.hid (And.intro hres ((HT.out.2.comp hfW)))
        have k1 : i ≤ vc := by have := HG.out.2.1; omega
        have k2 : ¬ vc = i := by have := HG.out.2.1; omega
        have k3 : n ≤ vc := HG.out.2.1
        have k4 : (i : Int) ≤ (n : Int) := by omega
        have i0' : (0 : Int) ≤ (i : Int) := by omega
        clear hres hfW hbW hW2 hszc hzc cb cf
        go_wp2
        go_ret
        exact ⟨_, rfl, HF.out.1, HF.out.2.mono (fun b _ q => by subst q; rfl)⟩
  · -- none goes
    have HF : Hid (RowS (fun b => b < base) w1 (.slice va n vc) R) := Lib.hid (by
      rw [← HR.out, List.filter_eq_self.2 (fun a ha => by simpa using ht a ha)]
      have hr := HP.out.1
      rw [HN.out] at hr
      exact RowS.fr hr f1 (fun _ q => q.elim))
    clear ht
    go_wp2
    go_ret
    exact ⟨_, rfl, HF.out, by (repeat (first | (with_reducible exact Fr.refl _ _) | (with_reducible assumption) | (with_reducible exact Fr.of_nil (by assumption)) | (with_reducible refine Fr.drew ?_) | (with_reducible refine Fr.drewN ?_ _) | (with_reducible refine Fr.alloc ?_ _) | (with_reducible refine Fr.set ?_ _ _ (by first | (intro _; exact rfl) | (intro _; exact .inl rfl) | (intro _; exact .inr rfl) | (intro q; exact absurd q (Nat.lt_irrefl _)) | (intro q; simp at q; omega))) | (with_reducible refine Fr.via ?_ (by assumption)) | (with_reducible refine Fr.comp ?_ (by assumption))))⟩
end
end Go.Proofs.Ythpenpgcacikaaa

namespace Go.Proofs.Ythpenpgcacikaaa
set_option linter.unusedSimpArgs false
set_option linter.unusedVariables false
open Go.RowKit

/-- A list but some names. -/
def woF (a s : List (List UInt8)) : List (List UInt8) := a.filter (fun x => decide (x ∉ s))
theorem woF_len (a s : List (List UInt8)) : (woF a s).length ≤ a.length := List.length_filter_le _ _
section
variable {X X2 : Nat → Prop} {w : World} {pv v : Value} {l ps : List (List UInt8)} {cs : List Value} {e : TE}
theorem owns_row {w : World} {base : Nat} {v : Value} {l : List (List UInt8)} (h : w.ownsRow base 9 1 v l.length (strC l)) : RowS (fun b => b < base) w v l := RowS.of_own h (fun _ q => q)
set_option maxRecDepth 100000 in
theorem body_any (hp : RowS X2 w pv ps) (hE : EAt X w cs e) (ho : okE e) (hwt : wtE e ≤ 400000) :
    Calls Try.prog 14 #[pv, .agg cs.toArray] w fun r w' => ∃ v, r = .returned v ∧ RowS (fun b => b < w.heap.size) w' v (woF (uniq (occE e [])) ps) ∧ Fr Nil w w' := by
  have hfo := hE.formE
  have hE := hE.nocare
  have hp : RowS (fun b => w.heap.size ≤ b) w pv ps := RowC.mono hp (by decide) (fun b h1 h2 => by omega)
  obtain ⟨pa, pc, rfl⟩ := RowC.shape hp
  obtain ⟨T, hT⟩ : ∃ T, w.heap.size = T := ⟨_, rfl⟩
  obtain ⟨R, hR⟩ : ∃ R, woF (uniq (occE e [])) ps = R := ⟨_, rfl⟩
  have hlen : (uniq (occE e [])).length ≤ 1000000 := by
    have := uniq_len (occE e [])
    have := occE_le e []
    omega
  obtain ⟨np, hnp⟩ : ∃ np, ps.length = np := ⟨_, rfl⟩
  rw [hT] at hp ⊢
  rw [hR, hnp]
  have HH := Lib.hid (And.intro hE (And.intro hp (And.intro ho (And.intro hwt (And.intro hR (And.intro hlen hnp))))))
  clear hE hp ho hwt hR hlen hnp
  obtain ⟨k, nm, fl, bi, a0, n0, c0, a1, n1, c1, a2, n2, c2, a3, n3, c3, rfl⟩ := hfo
  go_enter Try.func14, Try.ntmps14
  go_wp2_with fail
  obtain ⟨W1, hW1⟩ : ∃ W1, (w.alloc (.cells #[.slice pa np pc] 25)).alloc (.cells #[.int .i64 (k : Int), .string nm, .bool fl, .int .u64 (bi : Int), .slice a0 n0 c0, .slice a1 n1 c1, .slice a2 n2 c2, .slice a3 n3 c3] 32) = W1 := ⟨_, rfl⟩
  rw [hW1]
  have f1 : Fr Nil w W1 := by rw [← hW1]; (repeat (first | (with_reducible exact Fr.refl _ _) | (with_reducible assumption) | (with_reducible exact Fr.of_nil (by assumption)) | (with_reducible refine Fr.drew ?_) | (with_reducible refine Fr.drewN ?_ _) | (with_reducible refine Fr.alloc ?_ _) | (with_reducible refine Fr.set ?_ _ _ (by first | (intros; omega) | (simp; done) | (simp; omega))) | (with_reducible refine Fr.via ?_ (by assumption)) | (with_reducible refine Fr.comp ?_ (by assumption))))
  have s1 : W1.heap.size = T + 2 := by rw [← hW1]; simp [hT]
  have b1 : Blk W1 T #[.slice pa np pc] 25 := by rw [← hW1]; (unfold Blk; simp (disch := first | omega | (simp; done) | (simp; omega)) only [hp_drew, hp_drewN, hp_alloc, hp_other, hp_same, hp_new, upd_cells, Option.map_some])
  have H1 := Lib.hid (And.intro f1 (And.intro s1 b1))
  clear hW1 f1 s1 b1
  refine (free_any (HH.out.1.fr H1.out.1 (fun _ q => q.elim)) HH.out.2.2.1 HH.out.2.2.2.1).mono ?_
  rintro e2 w2 ⟨v2, rfl, own, f2⟩
  rw [H1.out.2.1] at own
  obtain ⟨va, vc, rfl⟩ := owns_shape own
  have b2 := f2.blk H1.out.2.2 (fun q => q)
  have hp2 : RowS (fun b => T + 2 ≤ b) w2 (.slice pa np pc) ps := by
    have h := (RowS.fr HH.out.2.1 (H1.out.1.comp f2) (fun _ q => q.elim))
    rw [HH.out.2.2.2.2.2.2] at h
    exact RowC.mono h (by decide) (fun b _ q => by omega)
  have HD := delete_any own b2 hp2 (fun q => by have := (own.lt T q).1; omega) HH.out.2.2.2.2.2.1
  have HD : Calls Try.prog _ _ _ _ := HD
  rw [show (uniq (occE e [])).filter (fun x => decide (x ∉ ps)) = R from HH.out.2.2.2.2.1] at HD
  have hown := own.lt
  obtain ⟨M, hM⟩ : ∃ M, (uniq (occE e [])).length = M := ⟨_, rfl⟩
  rw [hM] at HD hown
  rw [hM]
  have HO := Lib.hid (And.intro (H1.out.1.comp f2) hown)
  have HD := Lib.hid HD
  clear own b2 hp2 f2 hown hM
  go_wp2_with fail
  refine HD.out.mono ?_
  rintro e3 w3 ⟨v3, rfl, hr, f3⟩
  have hr3 : RowS (fun b => b < T) w3 v3 R := RowC.mono hr (by decide) (fun b _ q => by omega)
  have HF := Lib.hid (And.intro hr3 (HO.out.1.trans (S' := fun k => (Value.slice va M vc).ownBlock = some k) f3 (fun q hq e => by have := (HO.out.2 q e).1; omega)))
  clear hr hr3 f3
  go_wp2
  go_ret
  exact ⟨_, rfl, HF.out.1, HF.out.2⟩
set_option maxRecDepth 100000 in
set_option maxHeartbeats 2000000 in
theorem without_any (h : RowS X w v l) (hs : RowS X2 w pv ps) (hl9 : l.length ≤ 1000000) :
    Calls Try.prog 21 #[v, pv] w fun r w' => ∃ v', r = .returned v' ∧ w'.ownsRow w.heap.size 9 1 v' (woF l ps).length (strC (woF l ps)) ∧ Fr Nil w w' := by
  obtain ⟨i0, hi, hz0, hz1, hz2⟩ := info_parts infoS
  obtain ⟨va, vc, rfl⟩ := RowC.shape h
  obtain ⟨pa, pc, rfl⟩ := RowC.shape hs
  obtain ⟨n, hn⟩ : ∃ n, l.length = n := ⟨_, rfl⟩
  obtain ⟨np, hnp⟩ : ∃ np, ps.length = np := ⟨_, rfl⟩
  obtain ⟨R, hR⟩ : ∃ R, woF l ps = R := ⟨_, rfl⟩
  rw [hn, hnp, hR]
  unfold woF at hR
  have hmx : n ≤ 1000000 := by omega
  have HV := Lib.hid (And.intro (RowS.nocare h) (And.intro hn (And.intro (RowS.nocare hs) (And.intro hnp hR))))
  clear h hs hl9 hn hnp hR
  go_enter Try.func21, Try.ntmps21
  go_wp2_with fail
  go_loopg [5, 6] n (fun g vo iv wr => ∃ (k : Nat) (u : Value), u = vo ∧ g = n - k ∧ k ≤ n ∧ iv = .int .i64 (k : Int) ∧ Hid (wr.ownsRow w.heap.size 9 1 u ((l.take k).filter (fun x => decide (x ∉ ps))).length (strC ((l.take k).filter (fun x => decide (x ∉ ps)))) ∧ Fr Nil w wr))
  case atStart => exact ⟨0, _, rfl, rfl, by omega, rfl, Lib.hid ⟨by simpa [strC] using World.ownsRow_nil _ _ _ _, Fr.refl _ _⟩⟩
  case round =>
    obtain ⟨k, u, rfl, rfl, hk, rfl, HS⟩ := hrel
    have j0 : (0 : Int) ≤ (k : Int) := by omega
    have hsz := HS.out.2.size
    by_cases hlt : k < n
    · have hkL : k < l.length := by rw [HV.out.2.1]; exact hlt
      have wk : IntKind.i64.wrap ((k : Int) + 1) = (k : Int) + 1 := by rw [IntKind.wrap_i64]; omega
      obtain ⟨b, off, rfl, _, p0⟩ := (RowS.fr HV.out.1 HS.out.2 (fun _ q => q.elim)).cell k hkL
      obtain ⟨x, ex⟩ : ∃ x, l[k] = x := ⟨_, rfl⟩
      rw [ex] at p0
      have j1 : (k : Int) < (n : Int) := by omega
      have HE := Lib.hid ex
      have HC := in_any x (RowS.fr HV.out.2.2.1 HS.out.2 (fun _ q => q.elim))
      rw [HV.out.2.2.2.1] at HC
      clear ex
      by_cases q : x ∈ ps
      · rw [decide_eq_true q] at HC
        have HC := Lib.hid HC
        have HQ : Hid ((l.take (k + 1)).filter (fun x => decide (x ∉ ps)) = (l.take k).filter (fun x => decide (x ∉ ps))) := Lib.hid (by
          rw [List.take_succ_eq_append_getElem hkL, List.filter_append, HE.out]
          simp [q])
        clear q
        go_wp2_with fail
        refine HC.out.mono ?_
        rintro e w2 ⟨rfl, f2⟩
        go_wp2
        go_roundg (n - (k + 1))
        case rel => exact ⟨k + 1, _, rfl, rfl, by omega, by simp, Lib.hid ⟨by rw [HQ.out]; exact owns_fr HS.out.1 f2, HS.out.2.comp f2⟩⟩
        case measure => omega
      · rw [decide_eq_false q] at HC
        have HC := Lib.hid HC
        obtain ⟨F, hF⟩ : ∃ F, (l.take k).filter (fun x => decide (x ∉ ps)) = F := ⟨_, rfl⟩
        have hFl : F.length ≤ k := by
          rw [← hF]
          have := List.length_filter_le (fun x => decide (x ∉ ps)) (l.take k)
          rw [List.length_take] at this
          omega
        have HQ : Hid ((l.take (k + 1)).filter (fun x => decide (x ∉ ps)) = F ++ [x]) := Lib.hid (by
          rw [List.take_succ_eq_append_getElem hkL, List.filter_append, HE.out, hF]
          simp [q])
        rw [hF] at HS
        obtain ⟨M, hM⟩ : ∃ M, F.length = M := ⟨_, rfl⟩
        rw [hM] at HS hFl
        have HM := Lib.hid hM
        clear q hF hM
        go_wp2_with fail
        refine HC.out.mono ?_
        rintro e w2 ⟨rfl, f2⟩
        have p2 := f2.cell p0 (fun q => q)
        have own2 := owns_fr HS.out.1 f2
        have hsz2 := f2.size
        have H2 := Lib.hid (And.intro own2 f2)
        clear own2 f2 p0
        go_wp2_with (first
          | (at_builtin; refine wpList_push rfl (.tmp 20) (.tmp 25) 25 rfl w.heap.size 9 i0 (.string ⟨#[]⟩) 1 16 Try.underlying25 hi hz0 hz1 hz2 rfl (by decide) u M (strC F) rfl H2.out.1 [.string ⟨x.toArray⟩] rfl rfl (by simp [Value.oneCell']) (by unfold maxLen; omega) (by omega) (by omega) ?_; intro v' w3 hown3 f3 hk3; have HO3 := Lib.hid (And.intro hown3 f3); clear hown3 f3 hk3)
          | fail)
        have hown := H2.out.1.lt
        have fw3 : Fr Nil w w3 := Fr.trans (S := Nil) (HS.out.2.comp H2.out.2) HO3.out.2 (fun q hq hk2 => by have := (hown q hk2).1; omega)
        go_roundg (n - (k + 1))
        case rel => exact ⟨k + 1, _, rfl, rfl, by omega, by simp, Lib.hid ⟨by rw [HQ.out, strC_snoc, List.length_append, HM.out]; exact HO3.out.1, fw3⟩⟩
        case measure => omega
    · have j1 : ¬ (k : Int) < (n : Int) := by omega
      obtain rfl : n = k := by omega
      have HF : Hid (wr.ownsRow w.heap.size 9 1 u R.length (strC R) ∧ Fr Nil w wr) := Lib.hid (by
        have h := HS.out
        rw [List.take_of_length_le (by rw [HV.out.2.1]; exact Nat.le_refl _), HV.out.2.2.2.2] at h
        exact h)
      obtain ⟨ua, uc, rfl⟩ := owns_shape HF.out.1
      go_wp2
      go_ret
      exact ⟨_, rfl, HF.out.1, HF.out.2⟩
theorem owns_empty (w : World) (t : TypeId) : (w.alloc (.cells #[] t)).ownsRow w.heap.size t 1 (.slice (some ⟨w.heap.size, 0, none⟩) 0 0) 0 [] :=
  ⟨rfl, .inr ⟨w.heap.size, 0, #[], rfl, Nat.le_refl _, Blk.new _ _ _, Nat.le_refl _, by unfold maxLen; omega, rfl, rfl⟩⟩
/-- A list, and what another one has more. -/
def joinF (a b : List (List UInt8)) : List (List UInt8) := b.foldl (fun o x => if x ∈ o then o else o ++ [x]) a
theorem joinF_snoc (a b : List (List UInt8)) (x : List UInt8) : joinF a (b ++ [x]) = if x ∈ joinF a b then joinF a b else joinF a b ++ [x] := by
  unfold joinF
  rw [List.foldl_append]
  rfl
theorem joinF_len : ∀ (b a : List (List UInt8)), (joinF a b).length ≤ a.length + b.length
  | [], a => by simp [joinF]
  | x :: b, a => by
    show (joinF (if x ∈ a then a else a ++ [x]) b).length ≤ _
    have := joinF_len b (if x ∈ a then a else a ++ [x])
    split at this
    · rename_i h; rw [if_pos h]; simp; omega
    · rename_i h; rw [if_neg h]; simp at this ⊢; omega
theorem strC_mem {l : List (List UInt8)} : ∀ u ∈ strC l, u.oneCell' = true := fun u hu => by
  obtain ⟨x, _, rfl⟩ := List.mem_map.1 hu
  rfl
set_option maxRecDepth 100000 in
set_option maxHeartbeats 2000000 in
theorem join_any (h : RowS X w v l) (hs : RowS X2 w pv ps) (hl9 : l.length + ps.length ≤ 1000000) :
    Calls Try.prog 20 #[v, pv] w fun r w' => ∃ v', r = .returned v' ∧ w'.ownsRow w.heap.size 9 1 v' (joinF l ps).length (strC (joinF l ps)) ∧ Fr Nil w w' := by
  obtain ⟨i0, hi, hz0, hz1, hz2⟩ := info_parts infoS
  obtain ⟨va, vc, rfl⟩ := RowC.shape h
  obtain ⟨pa, pc, rfl⟩ := RowC.shape hs
  obtain ⟨m, hm⟩ : ∃ n, l.length = n := ⟨_, rfl⟩
  obtain ⟨n, hn⟩ : ∃ np, ps.length = np := ⟨_, rfl⟩
  obtain ⟨R, hR⟩ : ∃ R, joinF l ps = R := ⟨_, rfl⟩
  rw [hn, hm, hR]
  have hmx : m + n ≤ 1000000 := by omega
  have hsrc : ∀ w', Fr Nil w w' → Src w' va m 1 (strC l) := fun w' f => by
    have h := RowS.fr h f (fun _ q => q.elim)
    rcases Nat.eq_zero_or_pos l.length with q | q
    · rw [List.length_eq_zero_iff] at q
      subst q
      subst hm
      obtain ⟨a1, cap1, e, _, _, hc⟩ := h
      cases va with
      | none => exact .inl ⟨rfl, rfl, rfl⟩
      | some ad => exact .inr ⟨ad, rfl, rfl, fun j u hj => by simp [strC] at hj⟩
    · obtain ⟨b, off, rfl, _, _⟩ := h.cell 0 q
      refine .inr ⟨_, rfl, by simp [strC, hm], fun j u hj => ?_⟩
      have hj2 : j < l.length := by
        have := (List.getElem?_eq_some_iff.1 hj).1
        simpa [strC] using this
      obtain ⟨b', off', e, _, p⟩ := h.cell j hj2
      cases e
      rw [add_at, p]
      simp [strC, hj2] at hj
      rw [← hj]
  have HV := Lib.hid (And.intro hsrc (And.intro hm (And.intro (RowS.nocare hs) (And.intro hn hR))))
  clear h hs hl9 hn hm hR hsrc
  go_enter Try.func20, Try.ntmps20
  go_wp2_with (first
    | (at_builtin; refine wpList_append_src rfl (.tmp 7) (.tmp 8) 25 rfl w.heap.size 9 i0 (.string ⟨#[]⟩) 1 16 Try.underlying25 hi hz0 hz1 hz2 rfl (by decide) (.slice (some ⟨w.heap.size, 0, none⟩) 0 0) 0 [] rfl (owns_empty _ _) va m vc (strC l) rfl (HV.out.1 _ (by (repeat (first | (with_reducible exact Fr.refl _ _) | (with_reducible assumption) | (with_reducible exact Fr.of_nil (by assumption)) | (with_reducible refine Fr.drew ?_) | (with_reducible refine Fr.drewN ?_ _) | (with_reducible refine Fr.alloc ?_ _) | (with_reducible refine Fr.set ?_ _ _ (by first | (intros; omega) | (simp; done) | (simp; omega))) | (with_reducible refine Fr.via ?_ (by assumption)) | (with_reducible refine Fr.comp ?_ (by assumption)))))) strC_mem (by unfold maxLen; omega) (by omega) (by simp) ?_; intro u1 w1 hown1 g1 hk1; have H1 := Lib.hid (And.intro hown1 g1); clear hown1 g1 hk1)
    | fail)
  have hw1 : Fr Nil w w1 := Fr.grown (S := Nil) (w := w) (w1 := w.alloc (.cells #[] 9)) (by (repeat (first | (with_reducible exact Fr.refl _ _) | (with_reducible assumption) | (with_reducible exact Fr.of_nil (by assumption)) | (with_reducible refine Fr.drew ?_) | (with_reducible refine Fr.drewN ?_ _) | (with_reducible refine Fr.alloc ?_ _) | (with_reducible refine Fr.set ?_ _ _ (by first | (intros; omega) | (simp; done) | (simp; omega))) | (with_reducible refine Fr.via ?_ (by assumption)) | (with_reducible refine Fr.comp ?_ (by assumption))))) H1.out.2 (fun k q hk => by cases q; exact absurd hk (Nat.lt_irrefl _))
  have ho1 : w1.ownsRow w.heap.size 9 1 u1 l.length (strC l) := by
    have h := H1.out.1
    rw [Nat.zero_add, List.nil_append] at h
    rw [HV.out.2.1]
    exact h
  have HO1 := Lib.hid (And.intro ho1 hw1)
  clear ho1 hw1
  go_wp2_with fail
  go_loopg [5, 6] n (fun g vo iv wr => ∃ (k : Nat) (u : Value), u = vo ∧ g = n - k ∧ k ≤ n ∧ iv = .int .i64 (k : Int) ∧ Hid (wr.ownsRow w.heap.size 9 1 u (joinF l (ps.take k)).length (strC (joinF l (ps.take k))) ∧ Fr Nil w wr))
  case atStart => exact ⟨0, _, rfl, rfl, by omega, rfl, Lib.hid ⟨by simpa [joinF] using HO1.out.1, HO1.out.2⟩⟩
  case round =>
    obtain ⟨k, u, rfl, rfl, hk, rfl, HS⟩ := hrel
    have j0 : (0 : Int) ≤ (k : Int) := by omega
    have hsz := HS.out.2.size
    by_cases hlt : k < n
    · have hkL : k < ps.length := by rw [HV.out.2.2.2.1]; exact hlt
      have wk : IntKind.i64.wrap ((k : Int) + 1) = (k : Int) + 1 := by rw [IntKind.wrap_i64]; omega
      have hrow := RowS.fr HV.out.2.2.1 HS.out.2 (fun _ q => q.elim)
      rw [HV.out.2.2.2.1] at hrow
      obtain ⟨b, off, rfl, _, p0⟩ := hrow.cell k hkL
      obtain ⟨x, ex⟩ : ∃ x, ps[k] = x := ⟨_, rfl⟩
      rw [ex] at p0
      have j1 : (k : Int) < (n : Int) := by omega
      have HE := Lib.hid ex
      have hlen := joinF_len (ps.take k) l
      obtain ⟨F, hF⟩ : ∃ F, joinF l (ps.take k) = F := ⟨_, rfl⟩
      have hsn := joinF_snoc l (ps.take k) x
      rw [← HE.out, ← List.take_succ_eq_append_getElem hkL, hF, HE.out] at hsn
      rw [hF] at HS hlen
      rw [List.length_take] at hlen
      have hm9 := HV.out.2.1
      have HC := in_any x (owns_row HS.out.1)
      obtain ⟨M, hM⟩ : ∃ M, F.length = M := ⟨_, rfl⟩
      rw [hM] at HS hlen
      have HM := Lib.hid hM
      obtain ⟨ua, uc, rfl⟩ := owns_shape HS.out.1
      have hM9 : M ≤ m + k := by omega
      clear ex hF hlen hm9 hM hrow
      by_cases q : x ∈ F
      · rw [decide_eq_true q] at HC
        rw [if_pos q] at hsn
        have HC := Lib.hid HC
        have HQ := Lib.hid hsn
        clear q hsn
        go_wp2_with fail
        refine HC.out.mono ?_
        rintro e w2 ⟨rfl, f2⟩
        go_wp2
        go_roundg (n - (k + 1))
        case rel => exact ⟨k + 1, _, rfl, rfl, by omega, by simp, Lib.hid ⟨by rw [HQ.out, HM.out]; exact owns_fr HS.out.1 f2, HS.out.2.comp f2⟩⟩
        case measure => omega
      · rw [decide_eq_false q] at HC
        rw [if_neg q] at hsn
        have HC := Lib.hid HC
        have HQ := Lib.hid hsn
        clear q hsn
        go_wp2_with fail
        refine HC.out.mono ?_
        rintro e w2 ⟨rfl, f2⟩
        have p2 := f2.cell p0 (fun q => q)
        have own2 := owns_fr HS.out.1 f2
        have hsz2 := f2.size
        have H2 := Lib.hid (And.intro own2 f2)
        clear own2 f2 p0
        go_wp2_with (first
          | (at_builtin; refine wpList_push rfl (.tmp 23) (.tmp 28) 25 rfl w.heap.size 9 i0 (.string ⟨#[]⟩) 1 16 Try.underlying25 hi hz0 hz1 hz2 rfl (by decide) _ M (strC F) rfl H2.out.1 [.string ⟨x.toArray⟩] rfl rfl (by simp [Value.oneCell']) (by unfold maxLen; omega) (by omega) (by omega) ?_; intro v' w3 hown3 f3 hk3; have HO3 := Lib.hid (And.intro hown3 f3); clear hown3 f3 hk3)
          | fail)
        have hown := H2.out.1.lt
        have fw3 : Fr Nil w w3 := Fr.trans (S := Nil) (HS.out.2.comp H2.out.2) HO3.out.2 (fun q hq hk2 => by have := (hown q hk2).1; omega)
        go_roundg (n - (k + 1))
        case rel => exact ⟨k + 1, _, rfl, rfl, by omega, by simp, Lib.hid ⟨by rw [HQ.out, strC_snoc, List.length_append, HM.out]; exact HO3.out.1, fw3⟩⟩
        case measure => omega
    · have j1 : ¬ (k : Int) < (n : Int) := by omega
      obtain rfl : n = k := by omega
      have HF : Hid (wr.ownsRow w.heap.size 9 1 u R.length (strC R) ∧ Fr Nil w wr) := Lib.hid (by
        have h := HS.out
        rw [List.take_of_length_le (by rw [HV.out.2.2.2.1]; exact Nat.le_refl _), HV.out.2.2.2.2] at h
        exact h)
      obtain ⟨ua, uc, rfl⟩ := owns_shape HF.out.1
      go_wp2
      go_ret
      exact ⟨_, rfl, HF.out.1, HF.out.2⟩
end
end Go.Proofs.Ythpenpgcacikaaa
