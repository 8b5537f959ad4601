/-
  Rows that grow by one (layer 8); names. No conditions.
-/
import Derived.Test.YthpenpgcacikaaaPar2
namespace Go.Proofs.Ythpenpgcacikaaa
set_option linter.unusedSimpArgs false
set_option linter.unusedVariables false
open Go.RowKit

theorem owns_frS {S : Nat → Prop} {w w' : World} {base size n : Nat} {t : TypeId} {u : Value} {xs : List Value} (h : w.ownsRow base t size u n xs) (f : Fr S w w') (hn : ∀ k, u.ownBlock = some k → ¬ S k) : w'.ownsRow base t size u n xs := by
  obtain ⟨h1, h2⟩ := h
  refine ⟨h1, ?_⟩
  rcases h2 with h2 | ⟨g, cap, cur, hv, hg, hh, r⟩
  · exact Or.inl h2
  · have hb : Blk w g cur t := hh
    exact Or.inr ⟨g, cap, cur, hv, hg, f.blk hb (hn g (by rw [hv]; rfl)), r⟩
theorem PAt.keep {S : Nat → Prop} {w w2 w3 : World} {pb : Nat} {vT : Value} {L : List TokV} {s st : PS} (h0 : PAt w pb vT L s) (F : Fr (fun b => b = pb) w w3) (h2 : PAt w2 pb vT L st) (g : Fr S w2 w3) (hS : ¬ S pb) : PAt w3 pb vT L st :=
  ⟨g.blk h2.blk hS, h0.toks.fr F (fun _ q => q), h2.le, h2.sz⟩
/-- An element that was just built is appended to a row of the call's own. -/
theorem wpList_push {P : Program} {w : World} {ops : Array Oper} {rest : List Oper} {o : Oper} {a : Act} {Q : Exit → Act → World → Prop}
    (hg : o.guard = none) (s x : Operand) (t : TypeId) (hop : o.op = Op.call { callee := Callee.builtin Builtin.append, args := #[s, x], argTypes := #[t, t] })
    (base : Nat) (e : TypeId) (i : TypeInfo) (z : Value) (size bytes : Nat) (h1 : P.underlying t = some (.slice e)) (h2 : P.info? e = some i) (h3 : i.zero = some z) (h4 : i.size = size) (h5 : i.bytes = bytes) (h6 : z.cells.size = size) (h7 : 0 < size)
    (v : Value) (n : Nat) (xs : List Value) (hs : a.eval s = v) (hown : w.ownsRow base e size v n xs) (news : List Value) (hx : a.eval x = .slice (some ⟨w.heap.size, 0, none⟩) 1 1) (hl : news.length = size) (h1c : ∀ u ∈ news, u.oneCell' = true)
    (b1 : n + 1 ≤ maxLen) (b2 : (n + 1) * bytes ≤ 140737488355328) (hbase : base ≤ w.heap.size)
    (hK : ∀ v' w', w'.ownsRow base e size v' (n + 1) (xs ++ news) → Fr (fun k => v.ownBlock = some k) w w' → (∀ k, v'.ownBlock = some k → v.ownBlock = some k ∨ w.heap.size ≤ k) → wpList P ops Q rest (a.put o.dst v') w') : wpList P ops Q (o :: rest) a (w.alloc (.cells news.toArray e)) := by
  have hlt := hown.lt
  have fA : Fr Nil w (w.alloc (.cells news.toArray e)) := (Fr.refl _ _).alloc _
  have hb : Blk (w.alloc (.cells news.toArray e)) w.heap.size news.toArray e := Blk.new _ _ _
  refine wpList_append_src hg s x t hop base e i z size bytes h1 h2 h3 h4 h5 h6 h7 v n xs hs (owns_frS hown fA (fun _ _ q => q)) (some ⟨w.heap.size, 0, none⟩) 1 1 news hx (.inr ⟨_, rfl, by rw [hl]; omega, fun j u hj => ?_⟩) h1c b1 b2 (Nat.le_trans hbase fA.size) ?_
  · rw [add_head, hb.cell]
    simpa using hj
  · intro v' w' r1 r2 r3
    refine hK v' w' r1 (Fr.grown (fA.of_nil) r2 (fun k q _ => q)) (fun k q => ?_)
    rcases r3 with r3 | r3
    · exact .inl (r3 ▸ q)
    · rw [r3] at q
      cases q
      exact .inr fA.size
theorem infoS : (Try.prog.info? 9).map (fun i => (i.zero, i.size, i.bytes)) = some (some (.string ⟨#[]⟩), 1, 16) := by kernel_rfl
theorem infoE : (Try.prog.info? 32).map (fun i => (i.zero, i.size, i.bytes)) = some (some (.agg #[.int .i64 0, .string ⟨#[]⟩, .bool false, .int .u64 0, .slice none 0 0, .slice none 0 0, .slice none 0 0, .slice none 0 0]), 8, 136) := by kernel_rfl
theorem infoB : (Try.prog.info? 34).map (fun i => (i.zero, i.size, i.bytes)) = some (some (.agg #[.string ⟨#[]⟩, .slice none 0 0, .int .i64 0, .string ⟨#[]⟩, .bool false, .int .u64 0, .slice none 0 0, .slice none 0 0, .slice none 0 0, .slice none 0 0]), 10, 176) := by kernel_rfl
theorem infoA : (Try.prog.info? 54).map (fun i => (i.zero, i.size, i.bytes)) = some (some (.agg #[.int .i64 0, .string ⟨#[]⟩, .bool false, .int .u64 0, .slice none 0 0, .int .i64 0, .string ⟨#[]⟩, .bool false, .int .u64 0, .slice none 0 0, .slice none 0 0, .slice none 0 0, .slice none 0 0]), 13, 200) := by kernel_rfl
theorem infoD : (Try.prog.info? 65).map (fun i => (i.zero, i.size, i.bytes)) = some (some (.agg #[.string ⟨#[]⟩, .int .i64 0]), 2, 24) := by kernel_rfl
/-- Names as their cells lie. -/
def strC (l : List (List UInt8)) : List Value := l.map (fun x => .string ⟨x.toArray⟩)
theorem strC_snoc (l : List (List UInt8)) (x : List UInt8) : strC (l ++ [x]) = strC l ++ [.string ⟨x.toArray⟩] := by simp [strC]
theorem RowS.of_own {X : Nat → Prop} {w : World} {base : Nat} {v : Value} {l : List (List UInt8)} (h : w.ownsRow base 9 1 v l.length (strC l)) (hX : ∀ b, X b → b < base) : RowS X w v l :=
  RowC.of_own h hX (fun i hi => rfl) (fun i hi j u hj => by
    cases j with
    | zero =>
      simp at hj
      subst hj
      have e : l[i]?.getD [] = l[i] := by simp [hi]
      simp [strC, hi]
    | succ j => simp at hj)
theorem run_tok1 (a b c d e : Value) (w : World) : (Instr.field 80 (.agg #[a, b, c, d, e]) 1).run Try.prog w = .ok b w := by kernel_rfl
section
variable {w : World} {pb : Nat} {vT : Value} {L : List TokV} {s : PS}
set_option maxRecDepth 100000 in
theorem pnames_any (least : Bool) (h : PAt w pb vT L s) :
    Calls Try.prog 61 #[.pointer (some ⟨pb, 0, none⟩), .int .i64 (if least then 1 else 0)] w fun r w' => ∃ v, r = .returned v ∧ RowS (fun b => b < w.heap.size) w' v (namesF L (fuelP L) least [] s).1 ∧ PAt w' pb vT L (namesF L (fuelP L) least [] s).2 ∧ Fr (fun b => b = pb) w w' := by
  obtain ⟨i0, hi, hz0, hz1, hz2⟩ := info_parts infoS
  obtain ⟨R, hR⟩ : ∃ R, namesF L (fuelP L) least [] s = R := ⟨_, rfl⟩
  rw [hR]
  obtain ⟨F, hF⟩ : ∃ F, fuelP L = F := ⟨_, rfl⟩
  have hm := measP_le L s
  rw [hF] at hR hm
  have hF2 : F ≤ 1000002 := by have := h.sz; unfold fuelP at hF; omega
  obtain ⟨lv, hlv⟩ : ∃ lv : Int, (if least then 1 else 0) = lv := ⟨_, rfl⟩
  rw [hlv]
  have hpl := h.blk.lt
  have HP := Lib.hid (And.intro h (And.intro hR (And.intro hlv hm)))
  have htf := run_tok1
  clear h hR hlv hm hF
  go_enter Try.func61, Try.ntmps61
  go_wp2_with fail
  go_loopg [1, 5] F (fun g lo vo wr => ∃ (ls : Bool) (li : Int) (acc : List (List UInt8)) (st : PS) (v : Value), lo = .int .i64 li ∧ v = vo ∧ acc.length + g = F ∧ Hid (namesF L g ls acc st = R ∧ measP L st + 1 ≤ g ∧ wr.ownsRow w.heap.size 9 1 v acc.length (strC acc) ∧ PAt wr pb vT L st ∧ li = (if ls = true then 1 else 0)) ∧ Fr (fun b => b = pb) w wr)
  case atStart => exact ⟨least, lv, [], s, _, rfl, rfl, by simp, Lib.hid ⟨HP.out.2.1, HP.out.2.2.2, World.ownsRow_nil _ _ _ _, HP.out.1, HP.out.2.2.1.symm⟩, Fr.refl _ _⟩
  case round =>
    obtain ⟨ls, li, acc, st, v, rfl, rfl, hg, HS, hw⟩ := hrel
    obtain ⟨p0, p1, p2, p3, pf, pl⟩ := HS.out.2.2.2.1.facts
    obtain ⟨cc, hcc⟩ : ∃ cc, decide (st.e = 0 ∧ (ls = true ∨ kindP L st = 1)) = cc := ⟨_, rfl⟩
    have HCC := Lib.hid hcc
    clear hcc
    go_upto_region 2 with fail
    go_cut [19] (fun sv wx => sv = .bool cc ∧ Fr Nil wr wx)
    case first =>
      by_cases he : st.e = 0
      · have i2 : (st.e : Int) = 0 := by omega
        rw [i2] at p2
        cases ls with
        | true =>
          obtain rfl : li = 1 := HS.out.2.2.2.2
          go_wp2
          go_meet
          exact ⟨by rw [← HCC.out]; simp [he], by (repeat (first | (with_reducible exact Fr.refl _ _) | (with_reducible assumption) | (with_reducible exact Fr.of_nil (by assumption)) | (with_reducible refine Fr.drew ?_) | (with_reducible refine Fr.drewN ?_ _) | (with_reducible refine Fr.alloc ?_ _) | (with_reducible refine Fr.set ?_ _ _ (by first | (intros; omega) | (simp; done) | (simp; omega))) | (with_reducible refine Fr.via ?_ (by assumption)) | (with_reducible refine Fr.comp ?_ (by assumption))))⟩
        | false =>
          obtain rfl : li = 0 := HS.out.2.2.2.2
          have HK := Lib.hid (pkind_any HS.out.2.2.2.1)
          have hcc := HCC.out
          by_cases hk : kindP L st = 1
          · rw [decide_eq_true ⟨he, .inr hk⟩] at hcc
            rw [hk] at HK
            subst hcc
            clear hk i2
            go_wp2_with fail
            refine HK.out.mono ?_
            rintro e w1 ⟨rfl, f1⟩
            go_wp2
            go_meet
            exact ⟨rfl, by (repeat (first | (with_reducible exact Fr.refl _ _) | (with_reducible assumption) | (with_reducible exact Fr.of_nil (by assumption)) | (with_reducible refine Fr.drew ?_) | (with_reducible refine Fr.drewN ?_ _) | (with_reducible refine Fr.alloc ?_ _) | (with_reducible refine Fr.set ?_ _ _ (by first | (intros; omega) | (simp; done) | (simp; omega))) | (with_reducible refine Fr.via ?_ (by assumption)) | (with_reducible refine Fr.comp ?_ (by assumption))))⟩
          · rw [decide_eq_false (fun q => by rcases q.2 with q | q; cases q; exact hk q)] at hcc
            subst hcc
            generalize kindP L st = kd at hk HK
            have d1 := decide_eq_false hk
            have d2 : (kd == 1) = false := by simpa using hk
            clear i2
            go_wp2_with fail
            refine HK.out.mono ?_
            rintro e w1 ⟨rfl, f1⟩
            go_wp2
            go_meet
            exact ⟨by simp [d2], by (repeat (first | (with_reducible exact Fr.refl _ _) | (with_reducible assumption) | (with_reducible exact Fr.of_nil (by assumption)) | (with_reducible refine Fr.drew ?_) | (with_reducible refine Fr.drewN ?_ _) | (with_reducible refine Fr.alloc ?_ _) | (with_reducible refine Fr.set ?_ _ _ (by first | (intros; omega) | (simp; done) | (simp; omega))) | (with_reducible refine Fr.via ?_ (by assumption)) | (with_reducible refine Fr.comp ?_ (by assumption))))⟩
      · have i2 : ¬ (st.e : Int) = 0 := by omega
        have d3 : ((st.e : Int) == 0) = false := by simpa using i2
        have hcc := HCC.out
        rw [decide_eq_false (fun q => he q.1)] at hcc
        subst hcc
        go_wp2
        go_meet
        exact ⟨by simp [d3], by (repeat (first | (with_reducible exact Fr.refl _ _) | (with_reducible assumption) | (with_reducible exact Fr.of_nil (by assumption)) | (with_reducible refine Fr.drew ?_) | (with_reducible refine Fr.drewN ?_ _) | (with_reducible refine Fr.alloc ?_ _) | (with_reducible refine Fr.set ?_ _ _ (by first | (intros; omega) | (simp; done) | (simp; omega))) | (with_reducible refine Fr.via ?_ (by assumption)) | (with_reducible refine Fr.comp ?_ (by assumption))))⟩
    case rest =>
      obtain ⟨rfl, f1⟩ := hcut
      obtain ⟨wx, hwx⟩ : ∃ wx, wc = wx := ⟨_, rfl⟩
      rw [hwx] at f1 ⊢
      clear hwx p0 p1 p2 p3 pf pl
      cases cc with
      | true =>
        obtain ⟨he, hk⟩ := of_decide_eq_true HCC.out
        have hT := token_meas (L := L) (k := 1) (by decide) he
        have HT := Lib.hid (ptoken_any 1 (by decide) (HS.out.2.2.2.1.fr f1))
        obtain ⟨f, hf⟩ : ∃ f, gk = f + 1 := ⟨gk - 1, by have := HS.out.2.1; omega⟩
        have hstep : namesF L f false (acc ++ [(tokenF L 1 st).1.text]) (tokenF L 1 st).2 = R := by
          have h := HS.out.1
          rw [hf] at h
          unfold namesF at h
          rw [if_pos ⟨he, hk⟩] at h
          exact h
        obtain ⟨tk, st', hts⟩ : ∃ tk st', tokenF L 1 st = (tk, st') := ⟨_, _, rfl⟩
        rw [hts] at HT hstep hT
        have hmf : measP L st' + 1 ≤ f := by have := HS.out.2.1; simp only at hT; omega
        have HR := Lib.hid (And.intro hstep hmf)
        clear hstep hT hts hk he hmf
        go_wp2_with fail
        refine HT.out.mono ?_
        rintro e w2 ⟨rfl, h2, f2⟩
        unfold tokV
        have fw2 : Fr (fun b => b = pb) w w2 := (hw.via f1).comp f2
        have hown2 : w2.ownsRow w.heap.size 9 1 v acc.length (strC acc) := owns_frS (owns_fr HS.out.2.2.1 f1) f2 (fun k q e => by
          have h := (HS.out.2.2.1.lt k q).1
          have e' : k = pb := e
          omega)
        have hs2 := fw2.size
        have hown3 := hown2.lt
        have H2 := Lib.hid (And.intro h2 (And.intro hown2 (And.intro fw2 hown3)))
        clear h2 hown2 fw2 f2 f1 hown3 HS HCC
        go_wp2_with (first
          | (at_builtin; refine wpList_push rfl (.tmp 20) (.tmp 24) 25 rfl w.heap.size 9 i0 (.string ⟨#[]⟩) 1 16 Try.underlying25 hi hz0 hz1 hz2 rfl (by decide) v acc.length (strC acc) rfl H2.out.2.1 [.string ⟨tk.text.toArray⟩] rfl rfl (by simp [Value.oneCell']) (by unfold maxLen; omega) (by omega) hs2 ?_; intro v' w3 hown3 f3 _; have HO := Lib.hid (And.intro hown3 f3); clear hown3 f3)
          | fail)
        have fw3 : Fr (fun b => b = pb) w w3 := H2.out.2.2.1.trans HO.out.2 (fun k hk q => by have := (H2.out.2.2.2 k q).1; omega)
        have hP3 := HP.out.1.keep fw3 H2.out.1 HO.out.2 (fun q => by have := (H2.out.2.2.2 pb q).1; omega)
        go_roundg f
        case rel => exact ⟨false, 0, acc ++ [tk.text], st', v', rfl, rfl, by simp; omega, Lib.hid ⟨HR.out.1, HR.out.2, by rw [strC_snoc, List.length_append]; exact HO.out.1, hP3, rfl⟩, fw3⟩
        case measure => omega
      | false =>
        have hno := of_decide_eq_false HCC.out
        obtain ⟨f, hf⟩ : ∃ f, gk = f + 1 := ⟨gk - 1, by have := HS.out.2.1; omega⟩
        have hR : (acc, st) = R := by
          have h := HS.out.1
          rw [hf] at h
          unfold namesF at h
          rw [if_neg hno] at h
          exact h
        subst hR
        have hrow : RowS (fun b => b < w.heap.size) wr v acc := RowS.of_own HS.out.2.2.1 (fun b q => q)
        have HF := Lib.hid (And.intro (RowS.fr hrow f1 (fun _ q => q.elim)) (And.intro (HS.out.2.2.2.1.fr f1) (hw.via f1)))
        clear hrow hno
        go_wp2
        go_ret
        exact ⟨v, rfl, HF.out.1, HF.out.2.1, HF.out.2.2⟩
end
end Go.Proofs.Ythpenpgcacikaaa
