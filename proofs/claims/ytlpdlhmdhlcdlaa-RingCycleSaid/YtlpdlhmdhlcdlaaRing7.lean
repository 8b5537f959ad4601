/-
  Package ring: one cell more of the rows that are told. Conditions: sizes.
-/
import Derived.Test.YtlpdlhmdhlcdlaaRing6
import Derived.Test.YtlpdlhmdhlcdlaaAppend
import Derived.Deep.RegionLawGrows
namespace Go.Proofs.Ytlpdlhmdhlcdlaa
set_option linter.unusedSimpArgs false
set_option linter.unusedVariables false
open Go.RowKit Go.Shelf

def upd {α : Type} (f : Nat → α) (j : Nat) (x : α) : Nat → α := fun i => if i = j then x else f i
theorem upd_same {α : Type} (f : Nat → α) (j : Nat) (x : α) : upd f j x j = x := by simp [upd]
theorem upd_other {α : Type} (f : Nat → α) {i j : Nat} (x : α) (h : i ≠ j) : upd f j x i = f i := by simp [upd, h]
def natV (c : Nat) : Value := .int .i64 (c : Int)
/-- The rows that are told, so far; what is left of each. -/
structure OutsAt (w : World) (base ob cb lb rb : Nat) (v : Nat → Value) (got : Nat → List Nat) (rem : Nat → Nat) (col : Nat) : Prop where
  out : Blk w ob #[v 0, v 1, v 2, v 3] 32
  col : Blk w cb #[.int .i64 (col : Int)] 3
  left : Blk w lb #[.int .i64 (rem 0 : Int), .int .i64 (rem 1 : Int), .int .i64 (rem 2 : Int), .int .i64 (rem 3 : Int)] 38
  rows : Blk w rb #[.pointer (some ⟨ob, 0, none⟩), .pointer (some ⟨ob, 1, none⟩), .pointer (some ⟨ob, 2, none⟩), .pointer (some ⟨ob, 3, none⟩)] 72
  row : ∀ j, j < 4 → w.ownsRow base 3 1 (v j) (got j).length ((got j).map natV)
  apart : ∀ i j, i < 4 → j < 4 → i ≠ j → ∀ k, (v i).ownBlock = some k → (v j).ownBlock ≠ some k
  le : ob < base ∧ cb < base ∧ lb < base ∧ rb < base
section
variable {w : World} {base ob cb lb rb : Nat} {v : Nat → Value} {got : Nat → List Nat} {rem : Nat → Nat} {col : Nat}
theorem OutsAt.ne (h : OutsAt w base ob cb lb rb v got rem col) : ob ≠ cb ∧ ob ≠ lb ∧ ob ≠ rb ∧ cb ≠ lb ∧ cb ≠ rb ∧ lb ≠ rb :=
  ⟨h.out.apart h.col (by decide), h.out.apart h.left (by decide), h.out.apart h.rows (by decide), h.col.apart h.left (by decide), h.col.apart h.rows (by decide), h.left.apart h.rows (by decide)⟩
theorem four {P : Nat → Prop} {j : Nat} (h : j < 4) (p0 : P 0) (p1 : P 1) (p2 : P 2) (p3 : P 3) : P j := by
  rcases Nat.lt_or_ge j 1 with q | q
  · obtain rfl : j = 0 := by omega
    exact p0
  · rcases Nat.lt_or_ge j 2 with q | q
    · obtain rfl : j = 1 := by omega
      exact p1
    · rcases Nat.lt_or_ge j 3 with q | q
      · obtain rfl : j = 2 := by omega
        exact p2
      · obtain rfl : j = 3 := by omega
        exact p3
theorem OutsAt.at (h : OutsAt w base ob cb lb rb v got rem col) {j : Nat} (hj : j < 4) :
    w.cell? ⟨ob, j, none⟩ = some (v j) ∧ w.cell? ⟨lb, j, none⟩ = some (.int .i64 (rem j : Int)) ∧ w.cell? ⟨rb, j, none⟩ = some (.pointer (some ⟨ob, j, none⟩)) := by
  refine ⟨?_, ?_, ?_⟩
  · rw [h.out.cell]; exact four (P := fun j => (#[v 0, v 1, v 2, v 3] : Array Value)[j]? = some (v j)) hj rfl rfl rfl rfl
  · rw [h.left.cell]; exact four (P := fun j => (#[.int .i64 (rem 0 : Int), .int .i64 (rem 1 : Int), .int .i64 (rem 2 : Int), .int .i64 (rem 3 : Int)] : Array Value)[j]? = some (.int .i64 (rem j : Int))) hj rfl rfl rfl rfl
  · rw [h.rows.cell]; exact four (P := fun j => (#[.pointer (some ⟨ob, 0, none⟩), .pointer (some ⟨ob, 1, none⟩), .pointer (some ⟨ob, 2, none⟩), .pointer (some ⟨ob, 3, none⟩)] : Array Value)[j]? = some (.pointer (some ⟨ob, j, none⟩))) hj rfl rfl rfl rfl
theorem owns_frS {S : Nat → Prop} {w w' : World} {base size n : Nat} {t : TypeId} {u : Value} {xs : List Value} (h : w.ownsRow base t size u n xs) (f : Fr S w w') (hn : ∀ k, u.ownBlock = some k → ¬ S k) : w'.ownsRow base t size u n xs := by
  obtain ⟨h1, h2⟩ := h
  refine ⟨h1, ?_⟩
  rcases h2 with h2 | ⟨g, cap, cur, hv, hg, hh, r⟩
  · exact Or.inl h2
  · have hb : Blk w g cur t := hh
    exact Or.inr ⟨g, cap, cur, hv, hg, f.blk hb (hn g (by rw [hv]; rfl)), r⟩
theorem OutsAt.fr {S : Nat → Prop} {w' : World} (h : OutsAt w base ob cb lb rb v got rem col) (f : Fr S w w') (h1 : ¬ S ob) (h2 : ¬ S cb) (h3 : ¬ S lb) (h4 : ¬ S rb) (h5 : ∀ k, base ≤ k → ¬ S k) : OutsAt w' base ob cb lb rb v got rem col :=
  ⟨f.blk h.out h1, f.blk h.col h2, f.blk h.left h3, f.blk h.rows h4, fun j hj => owns_frS (h.row j hj) f (fun k hk => h5 k ((h.row j hj).lt k hk).1), h.apart, h.le⟩
theorem set_four (v : Nat → Value) (j : Nat) (x : Value) (hj : j < 4) : (#[v 0, v 1, v 2, v 3] : Array Value).setIfInBounds j x = #[upd v j x 0, upd v j x 1, upd v j x 2, upd v j x 3] :=
  four (P := fun j => (#[v 0, v 1, v 2, v 3] : Array Value).setIfInBounds j x = #[upd v j x 0, upd v j x 1, upd v j x 2, upd v j x 3]) hj (by simp [upd]) (by simp [upd]) (by simp [upd]) (by simp [upd])
theorem set_left (r : Nat → Nat) (j m : Nat) (hj : j < 4) : (#[.int .i64 (r 0 : Int), .int .i64 (r 1 : Int), .int .i64 (r 2 : Int), .int .i64 (r 3 : Int)] : Array Value).setIfInBounds j (.int .i64 (m : Int)) = #[.int .i64 ((upd r j m 0 : Nat) : Int), .int .i64 ((upd r j m 1 : Nat) : Int), .int .i64 ((upd r j m 2 : Nat) : Int), .int .i64 ((upd r j m 3 : Nat) : Int)] :=
  four (P := fun j => (#[.int .i64 (r 0 : Int), .int .i64 (r 1 : Int), .int .i64 (r 2 : Int), .int .i64 (r 3 : Int)] : Array Value).setIfInBounds j (.int .i64 (m : Int)) = #[.int .i64 ((upd r j m 0 : Nat) : Int), .int .i64 ((upd r j m 1 : Nat) : Int), .int .i64 ((upd r j m 2 : Nat) : Int), .int .i64 ((upd r j m 3 : Nat) : Int)]) hj (by simp [upd]) (by simp [upd]) (by simp [upd]) (by simp [upd])
end
theorem owns_sh {w : World} {base n size : Nat} {t : TypeId} {u : Value} {xs : List Value} (h : w.ownsRow base t size u n xs) : ∃ a cap, u = .slice a n cap := by
  rcases h.2 with ⟨rfl, rfl⟩ | ⟨g, cap, cur, rfl, _⟩
  · exact ⟨_, _, rfl⟩
  · exact ⟨_, _, rfl⟩
theorem src_int {w : World} {b : Nat} {x : Value} {t : TypeId} (h : Blk w b #[x] t) : Src w (some ⟨b, 0, none⟩) 1 1 [x] :=
  .inr ⟨_, rfl, rfl, fun j u hj => by
    rw [add_head, h.cell j]
    simpa using hj⟩
theorem infoI : (Try.prog.info? 3).map (fun i => (i.zero, i.size, i.bytes)) = some (some (.int .i64 0), 1, 8) := by kernel_rfl
/-- What a step may turn. -/
def StepS (base ob cb lb : Nat) : Nat → Prop := fun k => k = ob ∨ k = cb ∨ k = lb ∨ base ≤ k
theorem step_mid {w1 W w4 : World} {base ob cb lb rb k : Nat} {v : Nat → Value} {got : Nat → List Nat} {rem : Nat → Nat} {x : Value} (hall : OutsAt W base ob cb lb rb v got rem k) (hk4 : k < 4) (hx : v k = x) (hlt : ∀ q, (v k).ownBlock = some q → base ≤ q ∧ q < W.heap.size)
    (f1 : Fr Nil W w1) (hg : w1.grownBy w4 x.ownBlock) :
    Fr (fun b => x.ownBlock = some b) W w4 ∧ w4.frozen? ⟨ob, k, none⟩ = false ∧ w4.cell? ⟨ob, k, none⟩ = some x ∧ w4.cell? ⟨rb, k, none⟩ = some (.pointer (some ⟨ob, k, none⟩)) ∧ w4.cell? ⟨cb, 0, none⟩ = some (.int .i64 (k : Int)) ∧ ob < w4.heap.size ∧ rb < w4.heap.size ∧ cb < w4.heap.size := by
  have f4 : Fr (fun b => x.ownBlock = some b) W w4 := Fr.grown f1.of_nil hg (fun k q hk => q)
  have hno : ∀ q, q < base → ¬ x.ownBlock = some q := fun q h1 h2 => by
    rw [← hx] at h2
    have := (hlt q h2).1
    omega
  have t4 := f4.blk hall.out (hno _ hall.le.1)
  obtain ⟨a1, a2, a3⟩ := hall.at hk4
  have cc := hall.col.cell 0
  simp at cc
  rw [hx] at a1
  exact ⟨f4, t4.free k, f4.cell a1 (hno _ hall.le.1), f4.cell a3 (hno _ hall.le.2.2.2), f4.cell cc (hno _ hall.le.2.1), t4.lt, f4.lt hall.rows.lt, f4.lt hall.col.lt⟩
theorem step_end {w W w4 V : World} {base ob cb lb rb k L cap4 c : Nat} {a4 : Option Addr} {v : Nat → Value} {got : Nat → List Nat} {rem : Nat → Nat} {x : Value} (hall : OutsAt W base ob cb lb rb v got rem k) (hk4 : k < 4) (hxk : v k = x) (hL : (got k).length = L)
    (hown : w4.ownsRow base 3 1 (.slice a4 (L + 1) cap4) (L + 1) ((got k).map natV ++ [.int .i64 (c : Int)])) (hb4 : Fr (fun b => x.ownBlock = some b) W w4) (hat : (Value.slice a4 (L + 1) cap4).ownBlock = x.ownBlock ∨ (Value.slice a4 (L + 1) cap4).ownBlock = some ((W.alloc (.cells #[.int .i64 (c : Int)] 3)).heap.size))
    (hV : V = w4.setCell ⟨ob, k, none⟩ (.slice a4 (L + 1) cap4) ∨ V = (w4.setCell ⟨ob, k, none⟩ (.slice a4 (L + 1) cap4)).drew) (hf : Fr (StepS base ob cb lb) w W) :
    (∃ v', OutsAt V base ob cb lb rb (upd v k v') (upd got k (got k ++ [c])) rem k) ∧ Fr (StepS base ob cb lb) w V := by
  have hno : ∀ q, q < base → ¬ x.ownBlock = some q := fun q h1 h2 => by
    rw [← hxk] at h2
    have := ((hall.row k hk4).lt q h2).1
    omega
  obtain ⟨q1, q2, q3, q4, q5, q6⟩ := hall.ne
  have t4 := hb4.blk hall.out (hno _ hall.le.1)
  have fs : Fr (fun q => q = ob) w4 V := by
    rcases hV with rfl | rfl
    · exact (Fr.refl _ _).set _ _ (fun _ => rfl)
    · exact Fr.drew (S := fun q => q = ob) ((Fr.refl _ _).set ⟨ob, k, none⟩ (.slice a4 (L + 1) cap4) (fun _ => rfl))
  have tV : Blk V ob #[upd v k (.slice a4 (L + 1) cap4) 0, upd v k (.slice a4 (L + 1) cap4) 1, upd v k (.slice a4 (L + 1) cap4) 2, upd v k (.slice a4 (L + 1) cap4) 3] 32 := by
    rw [← set_four v k _ hk4]
    rcases hV with rfl | rfl
    · exact t4.store k _
    · exact (t4.store k _).drew
  refine ⟨⟨.slice a4 (L + 1) cap4, ⟨tV, (fs.blk (hb4.blk hall.col (hno _ hall.le.2.1)) (fun q => q1 q.symm)), (fs.blk (hb4.blk hall.left (hno _ hall.le.2.2.1)) (fun q => q2 q.symm)), (fs.blk (hb4.blk hall.rows (hno _ hall.le.2.2.2)) (fun q => q3 q.symm)), ?_, ?_, hall.le⟩⟩, ?_⟩
  · intro i hi
    by_cases hik : i = k
    · subst hik
      rw [upd_same, upd_same, List.length_append, hL, List.map_append]
      exact owns_frS hown fs (fun q hq e => by have := (hown.lt q hq).1; have := hall.le; omega)
    · rw [upd_other _ _ hik, upd_other _ _ hik]
      exact owns_frS (hall.row i hi) ((hb4.mono (S' := fun q => x.ownBlock = some q ∨ q = ob) (fun _ _ q => .inl q)).comp (fs.mono (fun _ _ q => .inr q))) (fun q hq e => by
        rcases e with e | e
        · exact hall.apart i k hi hk4 hik q hq (by rw [hxk]; exact e)
        · have := ((hall.row i hi).lt q hq).1; have := hall.le; omega)
  · intro i i2 hi hi2 hne q hq
    have key : ∀ i, i < 4 → i ≠ k → ∀ q, (v i).ownBlock = some q → (Value.slice a4 (L + 1) cap4).ownBlock ≠ some q := fun i hi hik q hq e => by
      rcases hat with r | r
      · rw [r] at e
        exact hall.apart i k hi hk4 hik q hq (by rw [hxk]; exact e)
      · rw [r] at e
        have := ((hall.row i hi).lt q hq).2
        injection e with e
        simp at e
        omega
    by_cases e1 : i = k
    · subst e1
      rw [upd_same] at hq
      rw [upd_other _ _ (fun q => hne q.symm)]
      exact fun e => key i2 hi2 (fun q => hne q.symm) q e hq
    · rw [upd_other _ _ e1] at hq
      by_cases e2 : i2 = k
      · subst e2
        rw [upd_same]
        exact key i hi e1 q hq
      · rw [upd_other _ _ e2]
        exact hall.apart i i2 hi hi2 hne q hq
  · exact hf.comp ((hb4.mono (fun q _ e => .inr (.inr (.inr (by rw [← hxk] at e; exact ((hall.row k hk4).lt _ e).1))))).comp (fs.mono (fun _ _ q => .inl q)))
set_option maxRecDepth 100000 in
set_option maxHeartbeats 80000000 in
theorem step_any (w : World) (base ob cb lb rb : Nat) (v : Nat → Value) (got : Nat → List Nat) (rem : Nat → Nat) (col j m c : Nat) (h : OutsAt w base ob cb lb rb v got rem col) (hj : j < 4) (hm : rem j = m + 1) (hz : ∀ i, col ≤ i → i < j → rem i = 0) (hc : col ≤ j) (hg : (got j).length ≤ 100000) (hmm : m ≤ 100000) (hbase : base ≤ w.heap.size) :
    Calls Try.prog 35 #[.int .i64 (c : Int), .pointer (some ⟨lb, 0, none⟩), .pointer (some ⟨cb, 0, none⟩), .pointer (some ⟨rb, 0, none⟩)] w fun e w' => e = .returned (.tuple #[]) ∧ (∃ v', OutsAt w' base ob cb lb rb (upd v j v') (upd got j (got j ++ [c])) (upd rem j m) j) ∧ Fr (StepS base ob cb lb) w w' := by
  obtain ⟨i0, hi, hz0, hz1, hz2⟩ := info_parts infoI
  obtain ⟨q1, q2, q3, q4, q5, q6⟩ := h.ne
  have H := Lib.hid h
  have HZ := Lib.hid (And.intro hm hz)
  clear h hm hz
  go_enter Try.func35, Try.ntmps35
  go_wp2_with fail
  go_loopg [] (j - col) (fun g wr => ∃ k : Nat, col ≤ k ∧ k ≤ j ∧ g = j - k ∧ Hid (OutsAt wr base ob cb lb rb v got rem k) ∧ Fr (fun x => x = cb) w wr)
  case atStart => exact ⟨col, Nat.le_refl _, hc, rfl, H, Fr.refl _ _⟩
  case round =>
    obtain ⟨k, hk1, hk2, rfl, HO, hw⟩ := hrel
    have hk4 : k < 4 := by omega
    have k0 : (0 : Int) ≤ (k : Int) := by omega
    have k1 : (k : Int) < 4 := by omega
    have cc := HO.out.col.cell 0
    have cz := HO.out.col.free 0
    have clt := HO.out.col.lt
    simp at cc
    obtain ⟨o1, o2, o3⟩ := HO.out.at hk4
    have olt := HO.out.out.lt
    have llt := HO.out.left.lt
    have rlt := HO.out.rows.lt
    have ofz := HO.out.out.free k
    have lfz := HO.out.left.free k
    by_cases hkj : k = j
    · subst hkj
      rw [HZ.out.1] at o2
      have w1 : IntKind.i64.wrap (((m + 1 : Nat) : Int) - 1) = (m : Int) := by rw [IntKind.wrap_i64]; omega
      have e1 : ¬ ((m + 1 : Nat) : Int) = 0 := by omega
      have e2 : (((m + 1 : Nat) : Int) == 0) = false := by simp; omega
      go_wp2_with fail
      obtain ⟨W, hW⟩ : ∃ W, wr.setCell ⟨lb, k, none⟩ (.int .i64 (m : Int)) = W := ⟨_, rfl⟩
      rw [hW]
      have fW : Fr (fun x => x = lb) wr W := by rw [← hW]; (repeat (first | (with_reducible exact Fr.refl _ _) | (with_reducible assumption) | (with_reducible exact Fr.of_nil (by assumption)) | (with_reducible refine Fr.drew ?_) | (with_reducible refine Fr.drewN ?_ _) | (with_reducible refine Fr.alloc ?_ _) | (with_reducible refine Fr.set ?_ _ _ (by first | (intros; omega) | (simp; done) | (simp; omega))) | (with_reducible refine Fr.via ?_ (by assumption)) | (with_reducible refine Fr.comp ?_ (by assumption))))
      have bL : Blk W lb #[.int .i64 ((upd rem k m 0 : Nat) : Int), .int .i64 ((upd rem k m 1 : Nat) : Int), .int .i64 ((upd rem k m 2 : Nat) : Int), .int .i64 ((upd rem k m 3 : Nat) : Int)] 38 := by rw [← hW]; exact HO.out.left.put (set_left rem k m hk4)
      have hOW : OutsAt W base ob cb lb rb v got (upd rem k m) k := ⟨fW.blk HO.out.out (fun q => q2 q), fW.blk HO.out.col (fun q => q4 q), bL, fW.blk HO.out.rows (fun q => q6 q.symm), fun i hi => owns_frS (HO.out.row i hi) fW (fun q hq e => by have := ((HO.out.row i hi).lt q hq).1; have := HO.out.le; omega), HO.out.apart, HO.out.le⟩
      have hfw : Fr (StepS base ob cb lb) w W := (hw.mono (fun _ _ q => .inr (.inl q))).comp (fW.mono (fun _ _ q => .inr (.inr (.inl q))))
      have hbW : base ≤ W.heap.size := by have := hfw.size; omega
      have cc := hOW.col.cell 0
      have cz := hOW.col.free 0
      have clt := hOW.col.lt
      simp at cc
      obtain ⟨o1, o2, o3⟩ := hOW.at hk4
      have olt := hOW.out.lt
      have rlt := hOW.rows.lt
      have ofz := hOW.out.free k
      have hrow := hOW.row k hk4
      have HXO := Lib.hid (fun q (h : (v k).ownBlock = some q) => (hOW.row k hk4).lt q h)
      obtain ⟨L, hL⟩ : ∃ L, (got k).length = L := ⟨_, rfl⟩
      rw [hL] at hrow hg
      have HW := Lib.hid (And.intro hOW (And.intro hfw (And.intro hrow hL)))
      obtain ⟨x, hx⟩ : ∃ x, v k = x := ⟨_, rfl⟩
      have hxo : Hid (W.ownsRow base 3 1 x L ((got k).map natV)) := by rw [← hx]; exact Lib.hid hrow
      rw [hx] at o1
      have HXV := Lib.hid hx
      have hml1 : L + 1 ≤ maxLen := by unfold maxLen; omega
      have hml2 : (L + 1) * 8 ≤ 140737488355328 := by omega
      have hml3 : base ≤ (W.alloc (.cells #[.int .i64 (c : Int)] 3)).heap.size := by simp; omega
      have one_c : ∀ u ∈ [Value.int .i64 (c : Int)], u.oneCell' = true := by simp [Value.oneCell']
      clear hW hOW hfw hrow HO hw fW bL hx hL lfz llt o2
      go_region_law (first
        | (refine step_append_src rfl (.tmp 23) (.tmp 25) 30 rfl base 3 i0 (.int .i64 0) 1 8 Try.underlying30 hi hz0 hz1 hz2 rfl (by decide) x L _ (by simp [Act.eval, Act.put]) (hxo.out.alloc _) (some ⟨W.heap.size, 0, none⟩) 1 1 [.int .i64 (c : Int)] (by simp [Act.eval, Act.put]) (src_int (t := 3) (by (unfold Blk; simp (disch := first | omega | (simp; done) | (simp; omega)) only [hp_drew, hp_drewN, hp_alloc, hp_other, hp_same, hp_new, upd_cells, Option.map_some]))) one_c hml1 hml2 hml3 ?_; intro v4 w4 hown4 hgrow4 hat4; obtain ⟨f4, y1, y3, y4, y5, hst4, hst5, hst6⟩ := step_mid HW.out.1 hk4 HXV.out HXO.out (by (repeat (first | (with_reducible exact Fr.refl _ _) | (with_reducible assumption) | (with_reducible exact Fr.of_nil (by assumption)) | (with_reducible refine Fr.drew ?_) | (with_reducible refine Fr.drewN ?_ _) | (with_reducible refine Fr.alloc ?_ _) | (with_reducible refine Fr.set ?_ _ _ (by first | (intros; omega) | (simp; done) | (simp; omega))) | (with_reducible refine Fr.via ?_ (by assumption)) | (with_reducible refine Fr.comp ?_ (by assumption))))) hgrow4; obtain ⟨a4, cap4, rfl⟩ := owns_sh hown4; have HF := Lib.hid (And.intro hown4 (And.intro f4 hat4)); clear hown4 hgrow4 hat4 f4))
      all_goals
        go_end0
        exact ⟨rfl, step_end HW.out.1 hk4 HXV.out HW.out.2.2.2 HF.out.1 HF.out.2.1 HF.out.2.2 (by first | exact .inl rfl | exact .inr rfl) HW.out.2.1⟩
    · have hk0 : rem k = 0 := HZ.out.2 k hk1 (by omega)
      rw [hk0] at o2
      have w1 : IntKind.i64.wrap ((k : Int) + 1) = (k : Int) + 1 := by rw [IntKind.wrap_i64]; omega
      go_wp2
      go_roundg (j - (k + 1))
      case rel => exact ⟨k + 1, by omega, by omega, rfl, Lib.hid ⟨HO.out.out.other (by simpa using q1) _, HO.out.col.put (by simp), HO.out.left.other (by simpa using q4.symm) _, HO.out.rows.other (by simpa using q5.symm) _, fun i hi => owns_frS (S := fun x => x = cb) (HO.out.row i hi) (by (repeat (first | (with_reducible exact Fr.refl _ _) | (with_reducible assumption) | (with_reducible exact Fr.of_nil (by assumption)) | (with_reducible refine Fr.drew ?_) | (with_reducible refine Fr.drewN ?_ _) | (with_reducible refine Fr.alloc ?_ _) | (with_reducible refine Fr.set ?_ _ _ (by first | (intros; omega) | (simp; done) | (simp; omega))) | (with_reducible refine Fr.via ?_ (by assumption)) | (with_reducible refine Fr.comp ?_ (by assumption))))) (fun q hq e => by have := ((HO.out.row i hi).lt q hq).1; have := HO.out.le; omega), HO.out.apart, HO.out.le⟩, by (repeat (first | (with_reducible exact Fr.refl _ _) | (with_reducible assumption) | (with_reducible exact Fr.of_nil (by assumption)) | (with_reducible refine Fr.drew ?_) | (with_reducible refine Fr.drewN ?_ _) | (with_reducible refine Fr.alloc ?_ _) | (with_reducible refine Fr.set ?_ _ _ (by first | (intros; omega) | (simp; done) | (simp; omega))) | (with_reducible refine Fr.via ?_ (by assumption)) | (with_reducible refine Fr.comp ?_ (by assumption))))⟩
      case measure => omega
end Go.Proofs.Ytlpdlhmdhlcdlaa
