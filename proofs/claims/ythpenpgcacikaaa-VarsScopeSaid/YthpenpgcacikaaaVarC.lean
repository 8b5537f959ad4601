/-
  The walker's kids, binds and alternatives (layer 12), given what walk does of each expression in them. No conditions.
  The walker's binds and alternatives (layer 12), given what walk does of each expression in them. No conditions.
-/
import Derived.Test.YthpenpgcacikaaaVarB
namespace Go.Proofs.Ythpenpgcacikaaa
set_option linter.unusedSimpArgs false
set_option linter.unusedVariables false
open Go.RowKit

/-- How often names are bound in binds, but for their own. -/
def wnB : List TB → Nat
  | [] => 0
  | .mk _ p e :: l => p.length + wtE e + wnB l
theorem wnB_eq : ∀ l : List TB, wtB l = wnB l + l.length
  | [] => rfl
  | .mk _ p e :: l => by
    have := wnB_eq l
    unfold wtB wnB
    rw [List.length_cons]
    omega
theorem wtK_take {ks : List TE} {i : Nat} (h : i < ks.length) : wtK (ks.take (i + 1)) = wtK (ks.take i) + wtE ks[i] := by
  rw [List.take_succ_eq_append_getElem h, wtK_app]
  rfl
theorem occK_app (a c : List TE) (b : List (List UInt8)) : occK (a ++ c) b = occK a b ++ occK c b := by
  induction a with
  | nil => simp [occK]
  | cons x l ih => simp [occK, ih, List.append_assoc]
theorem occK_take {ks : List TE} {i : Nat} (h : i < ks.length) (b : List (List UInt8)) : occK (ks.take (i + 1)) b = occK (ks.take i) b ++ occE ks[i] b := by
  rw [List.take_succ_eq_append_getElem h, occK_app]
  simp [occK]
theorem wtK_take_le (ks : List TE) (i : Nat) : wtK (ks.take i) ≤ wtK ks := by
  conv => rhs; rw [← List.take_append_drop i ks, wtK_app]
  omega
theorem wnB_app (a b : List TB) : wnB (a ++ b) = wnB a + wnB b := by
  induction a with
  | nil => simp [wnB]
  | cons x l ih => obtain ⟨n, p, e⟩ := x; simp [wnB, ih]; omega
theorem wnB_take {bs : List TB} {i : Nat} (h : i < bs.length) : wnB (bs.take (i + 1)) = wnB (bs.take i) + (bs[i].params.length + wtE bs[i].body) := by
  rw [List.take_succ_eq_append_getElem h, wnB_app]
  obtain ⟨n, p, e⟩ := bs[i]
  rfl
theorem wnB_take_le (ks : List TB) (i : Nat) : wnB (ks.take i) ≤ wnB ks := by
  conv => rhs; rw [← List.take_append_drop i ks, wnB_app]
  omega
theorem occB_app (a c : List TB) (b : List (List UInt8)) : occB (a ++ c) b = occB a b ++ occB c b := by
  induction a with
  | nil => simp [occB]
  | cons x l ih => obtain ⟨n, p, e⟩ := x; simp [occB, ih, List.append_assoc]
theorem occB_take {bs : List TB} {i : Nat} (h : i < bs.length) (b : List (List UInt8)) : occB (bs.take (i + 1)) b = occB (bs.take i) b ++ occE bs[i].body (bs[i].params ++ b) := by
  rw [List.take_succ_eq_append_getElem h, occB_app]
  obtain ⟨n, p, e⟩ := bs[i]
  simp [occB, TB.params, TB.body]
theorem occB_len : ∀ (l : List TB) (b : List (List UInt8)), (occB l b).length ≤ wnB l
  | [], _ => Nat.le_refl _
  | .mk _ ps e :: l, b => by
    unfold occB wnB
    rw [List.length_append]
    have := occE_le e (ps ++ b)
    have := occB_len l b
    omega
/-- The names that an alternative binds. -/
def TA.binders (a : TA) : List (List UInt8) := if a.kind = 2 then [a.name] else a.names
theorem wtA_take {al : List TA} {i : Nat} (h : i < al.length) : wtA (al.take (i + 1)) = wtA (al.take i) + (1 + al[i].names.length + wtE al[i].body) := by
  rw [List.take_succ_eq_append_getElem h, wtA_app]
  obtain ⟨k, n, f, b, p, e⟩ := al[i]
  rfl
theorem wtA_take_le (ks : List TA) (i : Nat) : wtA (ks.take i) ≤ wtA ks := by
  conv => rhs; rw [← List.take_append_drop i ks, wtA_app]
  omega
theorem occA_app (a c : List TA) (b : List (List UInt8)) : occA (a ++ c) b = occA a b ++ occA c b := by
  induction a with
  | nil => simp [occA]
  | cons x l ih => obtain ⟨k, n, f, bb, p, e⟩ := x; simp [occA, ih, List.append_assoc]
theorem occA_take {al : List TA} {i : Nat} (h : i < al.length) (b : List (List UInt8)) : occA (al.take (i + 1)) b = occA (al.take i) b ++ occE al[i].body (al[i].binders ++ b) := by
  rw [List.take_succ_eq_append_getElem h, occA_app]
  obtain ⟨k, n, f, bb, p, e⟩ := al[i]
  simp [occA, TA.binders, TA.kind, TA.name, TA.names, TA.body]
  rfl
theorem binders_le (a : TA) : a.binders.length ≤ 1 + a.names.length := by
  unfold TA.binders
  split <;> simp <;> omega
theorem okK_mem : ∀ {ks : List TE} {e : TE}, okK ks → e ∈ ks → okE e
  | [], _, _, h => by simp at h
  | x :: l, e, h, hm => by
    rcases List.mem_cons.1 hm with q | q
    · exact q ▸ h.1
    · exact okK_mem h.2 q
theorem okB_mem : ∀ {bs : List TB} {b : TB}, okB bs → b ∈ bs → b.name.length ≤ maxLen ∧ (∀ x ∈ b.params, x.length ≤ maxLen) ∧ okE b.body
  | [], _, _, h => by simp at h
  | .mk n p e :: l, b, h, hm => by
    rcases List.mem_cons.1 hm with q | q
    · exact q ▸ h.1
    · exact okB_mem h.2 q
theorem okA_mem : ∀ {al : List TA} {a : TA}, okA al → a ∈ al → (∀ x ∈ a.binders, x.length ≤ maxLen) ∧ okE a.body
  | [], _, _, h => by simp at h
  | .mk k n f b p e :: l, a, h, hm => by
    rcases List.mem_cons.1 hm with q | q
    · subst q
      refine ⟨fun x hx => ?_, h.1.2.2⟩
      unfold TA.binders at hx
      split at hx
      · rw [List.mem_singleton] at hx
        exact hx ▸ h.1.1
      · exact h.1.2.1 x hx
    · exact okA_mem h.2 q
/-- The expression of an expression's own cells. -/
theorem BAt.parts {X : Nat → Prop} {w : World} {bn : ByteArray} {pa : Option Addr} {pn pc : Nat} {c : List Value} {t : TB} (h : BAt X w (.string bn :: .slice pa pn pc :: c) t) : RowS X w (.slice pa pn pc) t.params ∧ EAt X w c t.body ∧ bn = ⟨t.name.toArray⟩ := by
  obtain ⟨q1, q2, e, h1, h2⟩ := h
  injection e with e1 e
  injection e with e2 e
  subst e2 e
  injection e1 with e1
  exact ⟨h1, h2, e1⟩
theorem AAt.parts {X : Nat → Prop} {w : World} {tk : Nat} {tn : ByteArray} {tf : Bool} {tb : Nat} {pa : Option Addr} {pn pc : Nat} {c : List Value} {t : TA} (h : AAt X w (.int .i64 (tk : Int) :: .string tn :: .bool tf :: .int .u64 (tb : Int) :: .slice pa pn pc :: c) t) : RowS X w (.slice pa pn pc) t.names ∧ EAt X w c t.body ∧ tn = ⟨t.name.toArray⟩ ∧ tk = t.kind := by
  obtain ⟨q1, q2, e, h1, h2⟩ := h
  injection e with e1 e
  injection e with e3 e
  injection e with e4 e
  injection e with e5 e
  injection e with e2 e
  subst e2 e
  injection e3 with e3
  injection e1 with e0 e1
  exact ⟨h1, h2, e3, by omega⟩
section
variable (l wk mb N : Nat) (J : List (List UInt8) → World → Prop) (O : World → Nat → Prop)
/-- What walk does of an expression. -/
def WalkOk (e : TE) : Prop := ∀ (W : World) (pre bl : List (List UInt8)) (n : Nat) (cs : List Value), WK l wk mb J O W pre bl n → EAt (XO mb O W) W cs e → okE e → pre.length + wtE e ≤ N → bl.length ≤ n → n + 2 * wtE e ≤ 900000 →
  Calls Try.prog 32 #[.pointer (some ⟨wk, 0, none⟩), .agg cs.toArray] W fun r W' => r = .returned (.bool true) ∧ WK l wk mb J O W' (pre ++ occE e bl) bl (n + 2 * wtE e) ∧ Stp mb O W W'
end
section
variable {l wk mb N : Nat} {J : List (List UInt8) → World → Prop} {O : World → Nat → Prop} {W : World} {pre bl : List (List UInt8)} {n : Nat}
theorem YL.new (hY : YL l mb N J O) (h : WK l wk mb J O W pre bl n) {c : Array Value} {t : TypeId} : ¬ O (W.alloc (.cells c t)) W.heap.size ∧ W.heap.size ≠ mb := by
  refine ⟨fun q => ?_, fun q => ?_⟩
  · have := hY.lt _ _ _ h.j ((hY.fr _ _ _ h.j ((Fr.refl _ _).alloc (.cells c t))).2 _ q)
    omega
  · have := h.m.lt
    omega
/-- A box of the walker. -/
structure Box (W : World) (cb : Nat) : Prop where
  b : Blk W cb #[.pointer (some ⟨wk, 0, none⟩)] 70
  o : ¬ O W cb
  m : cb ≠ mb
theorem Box.stp {A B : World} {cb : Nat} (h : Box (wk := wk) (mb := mb) (O := O) A cb) (s : Stp mb O A B) : Box (wk := wk) (mb := mb) (O := O) B cb :=
  ⟨(s.blk h.b h.o h.m).1, (s.blk h.b h.o h.m).2, h.m⟩
set_option maxRecDepth 100000 in
theorem kids1_any (hY : YL l mb N J O) {e : TE} (hOk : WalkOk l wk mb N J O e) {cb : Nat} {cs : List Value} (h : WK l wk mb J O W pre bl n) (hb : Box (wk := wk) (mb := mb) (O := O) W cb) (hE : EAt (XO mb O W) W cs e) (ho : okE e) (h1 : pre.length + wtE e ≤ N) (h2 : bl.length ≤ n) (h3 : n + 2 * wtE e ≤ 900000) :
    Calls Try.prog 69 #[.agg cs.toArray, .pointer (some ⟨cb, 0, none⟩)] W fun r W' => r = .returned (.bool false) ∧ WK l wk mb J O W' (pre ++ occE e bl) bl (n + 2 * wtE e) ∧ Stp mb O W W' := by
  have c0 := hb.b.cell 0
  simp at c0
  have hlt := hb.b.lt
  have HH := Lib.hid (And.intro h (And.intro hE (And.intro ho (And.intro h1 (And.intro h2 h3)))))
  have HO : Hid (WalkOk l wk mb N J O e) := Lib.hid hOk
  have hfo := hE.formE
  clear h hb hE ho h1 h2 h3 hOk
  obtain ⟨k, nm, fl, bi, a0, n0, c0', a1, n1, c1, a2, n2, c2, a3, n3, c3, rfl⟩ := hfo
  go_enter Try.func69, Try.ntmps69
  go_wp2_with fail
  have hk := HH.out.1.keep hY (B := W.alloc (.cells #[.int .i64 (k : Int), .string nm, .bool fl, .int .u64 (bi : Int), .slice a0 n0 c0', .slice a1 n1 c1, .slice a2 n2 c2, .slice a3 n3 c3] 32)) (by (repeat (first | (with_reducible exact Fr.refl _ _) | (with_reducible assumption) | (with_reducible exact Fr.of_nil (by assumption)) | (with_reducible refine Fr.drew ?_) | (with_reducible refine Fr.drewN ?_ _) | (with_reducible refine Fr.alloc ?_ _) | (with_reducible refine Fr.set ?_ _ _ (by first | (intros; omega) | (simp; done) | (simp; omega))) | (with_reducible refine Fr.via ?_ (by assumption)) | (with_reducible refine Fr.comp ?_ (by assumption)))))
  refine (HO.out _ _ _ _ _ hk.1 (hk.2.el lawE HH.out.2.1) HH.out.2.2.1 HH.out.2.2.2.1 HH.out.2.2.2.2.1 HH.out.2.2.2.2.2).mono ?_
  rintro e w2 ⟨rfl, q1, q2⟩
  have H2 := Lib.hid (And.intro q1 (hk.2.trans q2))
  clear q1 q2 hk
  go_wp2
  go_ret
  exact ⟨rfl, H2.out⟩
set_option maxRecDepth 100000 in
theorem kids_any (hY : YL l mb N J O) {ks : List TE} (hOk : ∀ e ∈ ks, WalkOk l wk mb N J O e) {kv : Value} {kc : Nat → List Value} (h : WK l wk mb J O W pre bl n) (hk : RowC (XO mb O W) W kv ks.length 8 kc) (hk2 : ∀ i (h : i < ks.length), EAt (XO mb O W) W (kc i) ks[i]) (ho : okK ks) (h1 : pre.length + wtK ks ≤ N) (h2 : bl.length ≤ n) (h3 : n + 2 * wtK ks ≤ 900000) :
    Calls Try.prog 46 #[.pointer (some ⟨wk, 0, none⟩), kv] W fun r W' => r = .returned (.bool true) ∧ WK l wk mb J O W' (pre ++ occK ks bl) bl (n + 2 * wtK ks) ∧ Stp mb O W W' := by
  obtain ⟨sa, cap, rfl⟩ := hk.shape
  have hmx : ks.length ≤ 9223372036854775807 := by
    obtain ⟨_, _, _, q1, q2, _⟩ := hk
    unfold maxLen at q2
    omega
  have HH := Lib.hid (And.intro h (And.intro hk (And.intro hk2 (And.intro ho (And.intro h1 (And.intro h2 h3))))))
  have HO := Lib.hid hOk
  clear h hk hk2 ho h1 h2 h3 hOk
  go_enter Try.func46, Try.ntmps46
  go_wp2_with fail
  obtain ⟨W1, hW1⟩ : ∃ W1, W.alloc (.cells #[.pointer (some ⟨wk, 0, none⟩)] 70) = W1 := ⟨_, rfl⟩
  rw [hW1]
  have hbox : Box (wk := wk) (mb := mb) (O := O) W1 W.heap.size := by
    have := hY.new HH.out.1 (c := #[.pointer (some ⟨wk, 0, none⟩)]) (t := 70)
    rw [hW1] at this
    exact ⟨hW1 ▸ Blk.new _ _ _, this.1, this.2⟩
  have hk1 := HH.out.1.keep hY (B := W1) (by rw [← hW1]; (repeat (first | (with_reducible exact Fr.refl _ _) | (with_reducible assumption) | (with_reducible exact Fr.of_nil (by assumption)) | (with_reducible refine Fr.drew ?_) | (with_reducible refine Fr.drewN ?_ _) | (with_reducible refine Fr.alloc ?_ _) | (with_reducible refine Fr.set ?_ _ _ (by first | (intros; omega) | (simp; done) | (simp; omega))) | (with_reducible refine Fr.via ?_ (by assumption)) | (with_reducible refine Fr.comp ?_ (by assumption)))))
  clear hW1
  have hrow1 := hk1.2.row HH.out.2.1 (by decide)
  have hel1 : ∀ i (h : i < ks.length), EAt (XO mb O W1) W1 (kc i) ks[i] := fun i hi => hk1.2.el lawE (HH.out.2.2.1 i hi)
  refine (hasE_any (H := fun i A => WK l wk mb J O A (pre ++ occK (ks.take i) bl) bl (n + 2 * wtK (ks.take i)) ∧ Stp mb O W1 A) (cs := kc) (enters_of Try.func69 (by kernel_rfl) rfl) hmx (fun i hi => (hel1 i hi).formE) (fun i A hi hA => ?_) (fun i A hi hA => ?_) ?_).mono ?_
  · obtain ⟨b, off, e, _, hc⟩ := (hA.2.row hrow1 (by decide)).at hi
    exact ⟨b, off, e, hc⟩
  · have hw := wtK_take hi
    have hle := wtK_take_le ks (i + 1)
    have hlo := occK_le (ks.take i) bl
    have hm : ks[i] ∈ ks := List.getElem_mem hi
    refine (kids1_any hY (HO.out _ hm) hA.1 (hbox.stp hA.2) (hA.2.el lawE (hel1 i hi)) (okK_mem HH.out.2.2.2.1 hm) (by have := HH.out.2.2.2.2.1; rw [List.length_append]; omega) (by have := HH.out.2.2.2.2.2.1; omega) (by have := HH.out.2.2.2.2.2.2; omega)).mono ?_
    rintro e w2 ⟨rfl, q1, q2⟩
    refine ⟨rfl, ?_, hA.2.trans q2⟩
    rw [occK_take hi, ← List.append_assoc, hw, show n + 2 * (wtK (ks.take i) + wtE ks[i]) = n + 2 * wtK (ks.take i) + 2 * wtE ks[i] by omega]
    exact q1
  · refine ⟨?_, Stp.refl _⟩
    simpa [occK, wtK] using hk1.1
  · rintro e w2 ⟨rfl, q1, q2⟩
    rw [List.take_length] at q1
    have H2 := Lib.hid (And.intro q1 (hk1.2.trans q2))
    clear q1 q2 hk1 hrow1 hel1 hbox
    go_wp2
    go_ret
    exact ⟨rfl, H2.out⟩
set_option maxRecDepth 100000 in
theorem binds11_any (hY : YL l mb N J O) {e : TE} (hOk : WalkOk l wk mb N J O e) {cb eb : Nat} {cs hd : List Value} {t : TypeId} (hhd : hd.length = 2) (h : WK l wk mb J O W pre bl n) (hb : Box (wk := wk) (mb := mb) (O := O) W cb) (he : Blk W eb (hd ++ cs).toArray t) (hE : EAt (XO mb O W) W cs e) (ho : okE e) (h1 : pre.length + wtE e ≤ N) (h2 : bl.length ≤ n) (h3 : n + 2 * wtE e ≤ 900000) :
    Calls Try.prog 67 #[.pointer (some ⟨cb, 0, none⟩), .pointer (some ⟨eb, 0, none⟩)] W fun r W' => r = .returned (.bool true) ∧ WK l wk mb J O W' (pre ++ occE e bl) bl (n + 2 * wtE e) ∧ Stp mb O W W' := by
  have c0 := hb.b.cell 0
  simp at c0
  have hlt := hb.b.lt
  have hlt2 := he.lt
  have HH := Lib.hid (And.intro h (And.intro hE (And.intro ho (And.intro h1 (And.intro h2 h3)))))
  have HO : Hid (WalkOk l wk mb N J O e) := Lib.hid hOk
  have hfo := hE.formE
  obtain ⟨k, nm, fl, bi, a0, n0, c0', a1, n1, c1, a2, n2, c2, a3, n3, c3, rfl⟩ := hfo
  match hd, hhd with
  | [x0, x1], _ =>
  have e2 := he.cell 2
  have e3 := he.cell 3
  have e4 := he.cell 4
  have e5 := he.cell 5
  have e6 := he.cell 6
  have e7 := he.cell 7
  have e8 := he.cell 8
  have e9 := he.cell 9
  simp at e2 e3 e4 e5 e6 e7 e8 e9
  clear h hb hE ho h1 h2 h3 hOk he
  go_enter Try.func67, Try.ntmps67
  go_wp2_with fail
  refine (HO.out _ _ _ _ _ HH.out.1 HH.out.2.1 HH.out.2.2.1 HH.out.2.2.2.1 HH.out.2.2.2.2.1 HH.out.2.2.2.2.2).mono ?_
  rintro e w2 ⟨rfl, q1, q2⟩
  have H2 := Lib.hid (And.intro q1 q2)
  clear q1 q2
  go_wp2
  go_ret
  exact ⟨rfl, H2.out⟩
set_option maxRecDepth 100000 in
theorem alts11_any (hY : YL l mb N J O) {e : TE} (hOk : WalkOk l wk mb N J O e) {cb eb : Nat} {cs hd : List Value} {t : TypeId} (hhd : hd.length = 5) (h : WK l wk mb J O W pre bl n) (hb : Box (wk := wk) (mb := mb) (O := O) W cb) (he : Blk W eb (hd ++ cs).toArray t) (hE : EAt (XO mb O W) W cs e) (ho : okE e) (h1 : pre.length + wtE e ≤ N) (h2 : bl.length ≤ n) (h3 : n + 2 * wtE e ≤ 900000) :
    Calls Try.prog 72 #[.pointer (some ⟨cb, 0, none⟩), .pointer (some ⟨eb, 0, none⟩)] W fun r W' => r = .returned (.bool true) ∧ WK l wk mb J O W' (pre ++ occE e bl) bl (n + 2 * wtE e) ∧ Stp mb O W W' := by
  have c0 := hb.b.cell 0
  simp at c0
  have hlt := hb.b.lt
  have hlt2 := he.lt
  have HH := Lib.hid (And.intro h (And.intro hE (And.intro ho (And.intro h1 (And.intro h2 h3)))))
  have HO : Hid (WalkOk l wk mb N J O e) := Lib.hid hOk
  have hfo := hE.formE
  obtain ⟨k, nm, fl, bi, a0, n0, c0', a1, n1, c1, a2, n2, c2, a3, n3, c3, rfl⟩ := hfo
  match hd, hhd with
  | [x0, x1, x2, x3, x4], _ =>
  have e5 := he.cell 5
  have e6 := he.cell 6
  have e7 := he.cell 7
  have e8 := he.cell 8
  have e9 := he.cell 9
  have e10 := he.cell 10
  have e11 := he.cell 11
  have e12 := he.cell 12
  simp at e5 e6 e7 e8 e9 e10 e11 e12
  clear h hb hE ho h1 h2 h3 hOk he
  go_enter Try.func72, Try.ntmps72
  go_wp2_with fail
  refine (HO.out _ _ _ _ _ HH.out.1 HH.out.2.1 HH.out.2.2.1 HH.out.2.2.2.1 HH.out.2.2.2.2.1 HH.out.2.2.2.2.2).mono ?_
  rintro e w2 ⟨rfl, q1, q2⟩
  have H2 := Lib.hid (And.intro q1 q2)
  clear q1 q2
  go_wp2
  go_ret
  exact ⟨rfl, H2.out⟩
end
end Go.Proofs.Ythpenpgcacikaaa

namespace Go.Proofs.Ythpenpgcacikaaa
set_option linter.unusedSimpArgs false
set_option linter.unusedVariables false
open Go.RowKit

section
variable {l wk mb N : Nat} {J : List (List UInt8) → World → Prop} {O : World → Nat → Prop} {W : World} {pre bl : List (List UInt8)} {n : Nat}
set_option maxRecDepth 100000 in
theorem binds1_any (hY : YL l mb N J O) {b : TB} (hOk : WalkOk l wk mb N J O b.body) {cb : Nat} {c : List Value} (h : WK l wk mb J O W pre bl n) (hb : Box (wk := wk) (mb := mb) (O := O) W cb) (hB : BAt (XO mb O W) W c b) (hp : ∀ x ∈ b.params, x.length ≤ maxLen) (ho : okE b.body) (h1 : pre.length + wtE b.body ≤ N) (h2 : bl.length ≤ n) (h3 : n + 2 * (b.params.length + wtE b.body) ≤ 900000) :
    Calls Try.prog 66 #[.agg c.toArray, .pointer (some ⟨cb, 0, none⟩)] W fun r W' => r = .returned (.bool false) ∧ WK l wk mb J O W' (pre ++ occE b.body (b.params ++ bl)) bl (n + 2 * (b.params.length + wtE b.body)) ∧ Stp mb O W W' := by
  have c0 := hb.b.cell 0
  simp at c0
  have hlt := hb.b.lt
  have hfo := hB.formB
  obtain ⟨bn, pa, pn, pc, k, nm, fl, bi, a0, n0, c0', a1, n1, c1, a2, n2, c2, a3, n3, c3, rfl⟩ := hfo
  have hpt := hB.parts
  have HH := Lib.hid (And.intro h (And.intro hb (And.intro hpt.1 (And.intro hpt.2.1 (And.intro hp (And.intro ho (And.intro h1 (And.intro h2 h3))))))))
  have HO : Hid (WalkOk l wk mb N J O b.body) := Lib.hid hOk
  clear h hb hB hp ho h1 h2 h3 hOk hpt
  go_enter Try.func66, Try.ntmps66
  go_wp2_with fail
  obtain ⟨W1, hW1⟩ : ∃ W1, W.alloc (.cells #[.string bn, .slice pa pn pc, .int .i64 (k : Int), .string nm, .bool fl, .int .u64 (bi : Int), .slice a0 n0 c0', .slice a1 n1 c1, .slice a2 n2 c2, .slice a3 n3 c3] 34) = W1 := ⟨_, rfl⟩
  rw [hW1]
  have hnew := hY.new HH.out.1 (c := #[.string bn, .slice pa pn pc, .int .i64 (k : Int), .string nm, .bool fl, .int .u64 (bi : Int), .slice a0 n0 c0', .slice a1 n1 c1, .slice a2 n2 c2, .slice a3 n3 c3]) (t := 34)
  rw [hW1] at hnew
  have hblk : Blk W1 W.heap.size ([.string bn, .slice pa pn pc] ++ [.int .i64 (k : Int), .string nm, .bool fl, .int .u64 (bi : Int), .slice a0 n0 c0', .slice a1 n1 c1, .slice a2 n2 c2, .slice a3 n3 c3] : List Value).toArray 34 := hW1 ▸ Blk.new _ _ _
  have hk1 := HH.out.1.keep hY (B := W1) (by rw [← hW1]; (repeat (first | (with_reducible exact Fr.refl _ _) | (with_reducible assumption) | (with_reducible exact Fr.of_nil (by assumption)) | (with_reducible refine Fr.drew ?_) | (with_reducible refine Fr.drewN ?_ _) | (with_reducible refine Fr.alloc ?_ _) | (with_reducible refine Fr.set ?_ _ _ (by first | (intros; omega) | (simp; done) | (simp; omega))) | (with_reducible refine Fr.via ?_ (by assumption)) | (with_reducible refine Fr.comp ?_ (by assumption)))))
  clear hW1
  have hbx1 := HH.out.2.1.stp hk1.2
  have hel1 := hk1.2.el lawE HH.out.2.2.2.1
  have hrow1 : RowS (XO mb O W1) W1 (.slice pa pn pc) b.params := hk1.2.row HH.out.2.2.1 (by decide)
  obtain ⟨_, _, H1, H2, H3⟩ := HH.out.2.2.2.2
  have e0 : pn = b.params.length := by
    obtain ⟨_, _, e, _⟩ := hrow1
    injection e
  refine (within_any hY b.params hk1.1 hrow1 HH.out.2.2.2.2.1 (by omega) (by omega) (gf := 67) (c1 := cb) (c2 := W.heap.size) (pre2 := pre ++ occE b.body (b.params ++ bl)) (n2 := n + b.params.length + 2 * wtE b.body) (enters_of Try.func67 (by kernel_rfl) rfl) (fun W2 s2 hw2 => ?_) (by omega)).mono ?_
  · exact binds11_any hY HO.out rfl hw2 (hbx1.stp s2) (s2.blk hblk hnew.1 hnew.2).1 (s2.el lawE hel1) HH.out.2.2.2.2.2.1 HH.out.2.2.2.2.2.2.1 (by rw [List.length_append]; omega) (by omega)
  · rintro e w2 ⟨rfl, q1, q2⟩
    have F2 := Lib.hid (And.intro (q1.more (n' := n + 2 * (b.params.length + wtE b.body)) (by omega)) (hk1.2.trans q2))
    clear q1 q2 hk1 hbx1 hel1 hrow1 hblk hnew
    go_wp2
    go_ret
    exact ⟨rfl, F2.out⟩
set_option maxRecDepth 100000 in
theorem binds_any (hY : YL l mb N J O) {bs : List TB} (hOk : ∀ b ∈ bs, WalkOk l wk mb N J O b.body) {kv : Value} {kc : Nat → List Value} (h : WK l wk mb J O W pre bl n) (hk : RowC (XO mb O W) W kv bs.length 10 kc) (hk2 : ∀ i (h : i < bs.length), BAt (XO mb O W) W (kc i) bs[i]) (ho : okB bs) (h1 : pre.length + wnB bs ≤ N) (h2 : bl.length ≤ n) (h3 : n + 2 * wnB bs ≤ 900000) :
    Calls Try.prog 45 #[.pointer (some ⟨wk, 0, none⟩), kv] W fun r W' => r = .returned (.bool true) ∧ WK l wk mb J O W' (pre ++ occB bs bl) bl (n + 2 * wnB bs) ∧ Stp mb O W W' := by
  obtain ⟨sa, cap, rfl⟩ := hk.shape
  have hmx : bs.length ≤ 9223372036854775807 := by
    obtain ⟨_, _, _, q1, q2, _⟩ := hk
    unfold maxLen at q2
    omega
  have HH := Lib.hid (And.intro h (And.intro hk (And.intro hk2 (And.intro ho (And.intro h1 (And.intro h2 h3))))))
  have HO := Lib.hid hOk
  clear h hk hk2 ho h1 h2 h3 hOk
  go_enter Try.func45, Try.ntmps45
  go_wp2_with fail
  obtain ⟨W1, hW1⟩ : ∃ W1, W.alloc (.cells #[.pointer (some ⟨wk, 0, none⟩)] 70) = W1 := ⟨_, rfl⟩
  rw [hW1]
  have hbox : Box (wk := wk) (mb := mb) (O := O) W1 W.heap.size := by
    have := hY.new HH.out.1 (c := #[.pointer (some ⟨wk, 0, none⟩)]) (t := 70)
    rw [hW1] at this
    exact ⟨hW1 ▸ Blk.new _ _ _, this.1, this.2⟩
  have hk1 := HH.out.1.keep hY (B := W1) (by rw [← hW1]; (repeat (first | (with_reducible exact Fr.refl _ _) | (with_reducible assumption) | (with_reducible exact Fr.of_nil (by assumption)) | (with_reducible refine Fr.drew ?_) | (with_reducible refine Fr.drewN ?_ _) | (with_reducible refine Fr.alloc ?_ _) | (with_reducible refine Fr.set ?_ _ _ (by first | (intros; omega) | (simp; done) | (simp; omega))) | (with_reducible refine Fr.via ?_ (by assumption)) | (with_reducible refine Fr.comp ?_ (by assumption)))))
  clear hW1
  have hrow1 := hk1.2.row HH.out.2.1 (by decide)
  have hel1 : ∀ i (h : i < bs.length), BAt (XO mb O W1) W1 (kc i) bs[i] := fun i hi => hk1.2.el lawB (HH.out.2.2.1 i hi)
  refine (hasB_any (H := fun i A => WK l wk mb J O A (pre ++ occB (bs.take i) bl) bl (n + 2 * wnB (bs.take i)) ∧ Stp mb O W1 A) (cs := kc) (enters_of Try.func66 (by kernel_rfl) rfl) hmx (fun i hi => (hel1 i hi).formB) (fun i A hi hA => ?_) (fun i A hi hA => ?_) ?_).mono ?_
  · obtain ⟨b, off, e, _, hc⟩ := (hA.2.row hrow1 (by decide)).at hi
    exact ⟨b, off, e, hc⟩
  · have hw := wnB_take hi
    have hle := wnB_take_le bs (i + 1)
    have hlo := occB_len (bs.take i) bl
    have hm : bs[i] ∈ bs := List.getElem_mem hi
    have hok := okB_mem HH.out.2.2.2.1 hm
    refine (binds1_any hY (HO.out _ hm) hA.1 (hbox.stp hA.2) (hA.2.el lawB (hel1 i hi)) hok.2.1 hok.2.2 (by have := HH.out.2.2.2.2.1; rw [List.length_append]; omega) (by have := HH.out.2.2.2.2.2.1; omega) (by have := HH.out.2.2.2.2.2.2; omega)).mono ?_
    rintro e w2 ⟨rfl, q1, q2⟩
    refine ⟨rfl, ?_, hA.2.trans q2⟩
    rw [occB_take hi, ← List.append_assoc, hw, show n + 2 * (wnB (bs.take i) + (bs[i].params.length + wtE bs[i].body)) = n + 2 * wnB (bs.take i) + 2 * (bs[i].params.length + wtE bs[i].body) by omega]
    exact q1
  · refine ⟨?_, Stp.refl _⟩
    simpa [occB, wnB] using hk1.1
  · rintro e w2 ⟨rfl, q1, q2⟩
    rw [List.take_length] at q1
    have H2 := Lib.hid (And.intro q1 (hk1.2.trans q2))
    clear q1 q2 hk1 hrow1 hel1 hbox
    go_wp2
    go_ret
    exact ⟨rfl, H2.out⟩
theorem RowS.single {X : Nat → Prop} {w : World} {b : Nat} {x : List UInt8} {t : TypeId} (h : Blk w b #[.string ⟨x.toArray⟩] t) (hX : ¬ X b) : RowS X w (.slice (some ⟨b, 0, none⟩) 1 1) [x] := by
  have := RowC.one (cs := [.string ⟨x.toArray⟩]) (size := 1) h rfl hX
  exact this.congr (fun i hi => by
    have e : i = 0 := by omega
    subst e
    rfl)
set_option maxRecDepth 100000 in
theorem alts1_any (hY : YL l mb N J O) {b : TA} (hOk : WalkOk l wk mb N J O b.body) {cb : Nat} {c : List Value} (h : WK l wk mb J O W pre bl n) (hb : Box (wk := wk) (mb := mb) (O := O) W cb) (hB : AAt (XO mb O W) W c b) (hp : ∀ x ∈ b.binders, x.length ≤ maxLen) (ho : okE b.body) (h1 : pre.length + wtE b.body ≤ N) (h2 : bl.length ≤ n) (h3 : n + 2 * (b.binders.length + wtE b.body) ≤ 900000) :
    Calls Try.prog 71 #[.agg c.toArray, .pointer (some ⟨cb, 0, none⟩)] W fun r W' => r = .returned (.bool false) ∧ WK l wk mb J O W' (pre ++ occE b.body (b.binders ++ bl)) bl (n + 2 * (b.binders.length + wtE b.body)) ∧ Stp mb O W W' := by
  have c0 := hb.b.cell 0
  simp at c0
  have hlt := hb.b.lt
  have hfo := hB.formA
  obtain ⟨tk, tn, tf, tb, pa, pn, pc, k, nm, fl, bi, a0, n0, c0', a1, n1, c1, a2, n2, c2, a3, n3, c3, rfl⟩ := hfo
  have hpt := hB.parts
  have HH := Lib.hid (And.intro h (And.intro hb (And.intro hpt.1 (And.intro hpt.2.1 (And.intro hp (And.intro ho (And.intro h1 (And.intro h2 h3))))))))
  have HO : Hid (WalkOk l wk mb N J O b.body) := Lib.hid hOk
  obtain ⟨-, -, htn, htk⟩ := hpt
  obtain ⟨D, hD⟩ : ∃ D, b.binders = D := ⟨_, rfl⟩
  rw [hD] at HH ⊢
  subst htn
  clear h hb hB hp ho h1 h2 h3 hOk
  by_cases hk2 : tk = 2
  · have hD2 : D = [b.name] := by rw [← hD]; unfold TA.binders; rw [if_pos (by omega)]
    subst hk2 hD2
    clear hD htk
    go_enter Try.func71, Try.ntmps71
    go_wp2_with fail
    obtain ⟨W0, hW0⟩ : ∃ W0, W.alloc (.cells #[.int .i64 2, .string ⟨b.name.toArray⟩, .bool tf, .int .u64 (tb : Int), .slice pa pn pc, .int .i64 (k : Int), .string nm, .bool fl, .int .u64 (bi : Int), .slice a0 n0 c0', .slice a1 n1 c1, .slice a2 n2 c2, .slice a3 n3 c3] 54) = W0 := ⟨_, rfl⟩
    obtain ⟨W1, hW1⟩ : ∃ W1, W0.alloc (.cells #[.string ⟨b.name.toArray⟩] 9) = W1 := ⟨_, rfl⟩
    have hs0 : W0.heap.size = W.heap.size + 1 := by rw [← hW0]; simp
    have hk0 := HH.out.1.keep hY (B := W0) (by rw [← hW0]; (repeat (first | (with_reducible exact Fr.refl _ _) | (with_reducible assumption) | (with_reducible exact Fr.of_nil (by assumption)) | (with_reducible refine Fr.drew ?_) | (with_reducible refine Fr.drewN ?_ _) | (with_reducible refine Fr.alloc ?_ _) | (with_reducible refine Fr.set ?_ _ _ (by first | (intros; omega) | (simp; done) | (simp; omega))) | (with_reducible refine Fr.via ?_ (by assumption)) | (with_reducible refine Fr.comp ?_ (by assumption)))))
    have hnew0 := hY.new HH.out.1 (c := #[.int .i64 2, .string ⟨b.name.toArray⟩, .bool tf, .int .u64 (tb : Int), .slice pa pn pc, .int .i64 (k : Int), .string nm, .bool fl, .int .u64 (bi : Int), .slice a0 n0 c0', .slice a1 n1 c1, .slice a2 n2 c2, .slice a3 n3 c3]) (t := 54)
    rw [hW0] at hnew0
    have hblk0 : Blk W0 W.heap.size ([.int .i64 2, .string ⟨b.name.toArray⟩, .bool tf, .int .u64 (tb : Int), .slice pa pn pc] ++ [.int .i64 (k : Int), .string nm, .bool fl, .int .u64 (bi : Int), .slice a0 n0 c0', .slice a1 n1 c1, .slice a2 n2 c2, .slice a3 n3 c3] : List Value).toArray 54 := hW0 ▸ Blk.new _ _ _
    have hk01 := hk0.1.keep hY (B := W1) (by rw [← hW1]; (repeat (first | (with_reducible exact Fr.refl _ _) | (with_reducible assumption) | (with_reducible exact Fr.of_nil (by assumption)) | (with_reducible refine Fr.drew ?_) | (with_reducible refine Fr.drewN ?_ _) | (with_reducible refine Fr.alloc ?_ _) | (with_reducible refine Fr.set ?_ _ _ (by first | (intros; omega) | (simp; done) | (simp; omega))) | (with_reducible refine Fr.via ?_ (by assumption)) | (with_reducible refine Fr.comp ?_ (by assumption)))))
    have hk1 : WK l wk mb J O W1 pre bl n ∧ Stp mb O W W1 := ⟨hk01.1, hk0.2.trans hk01.2⟩
    have hnew1 := hY.new hk0.1 (c := #[.string ⟨b.name.toArray⟩]) (t := 9)
    rw [hW1, hs0] at hnew1
    have hblk1 : Blk W1 (W.heap.size + 1) #[.string ⟨b.name.toArray⟩] 9 := by
      have := Blk.new W0 #[.string ⟨b.name.toArray⟩] 9
      rwa [hW1, hs0] at this
    have hblk : Blk W1 W.heap.size ([.int .i64 2, .string ⟨b.name.toArray⟩, .bool tf, .int .u64 (tb : Int), .slice pa pn pc] ++ [.int .i64 (k : Int), .string nm, .bool fl, .int .u64 (bi : Int), .slice a0 n0 c0', .slice a1 n1 c1, .slice a2 n2 c2, .slice a3 n3 c3] : List Value).toArray 54 := (hk01.2.blk hblk0 hnew0.1 hnew0.2).1
    have hnew : ¬ O W1 W.heap.size ∧ W.heap.size ≠ mb := ⟨(hk01.2.blk hblk0 hnew0.1 hnew0.2).2, hnew0.2⟩
    rw [hW0, hW1]
    have hrow1 : RowS (XO mb O W1) W1 (.slice (some ⟨W.heap.size + 1, 0, none⟩) 1 1) [b.name] := RowS.single hblk1 (fun q => q.elim hnew1.1 hnew1.2)
    clear hW0 hW1 hk0 hk01 hblk0 hblk1 hnew0 hnew1 hs0
    have hbx1 := HH.out.2.1.stp hk1.2
    have hel1 := hk1.2.el lawE HH.out.2.2.2.1
    obtain ⟨_, _, H1, H2, H3⟩ := HH.out.2.2.2.2
    refine (within_any hY [b.name] hk1.1 hrow1 HH.out.2.2.2.2.1 (by omega) (by omega) (gf := 72) (c1 := cb) (c2 := W.heap.size) (pre2 := pre ++ occE b.body ([b.name] ++ bl)) (n2 := n + ([b.name]).length + 2 * wtE b.body) (enters_of Try.func72 (by kernel_rfl) rfl) (fun W2 s2 hw2 => ?_) (by omega)).mono ?_
    · exact alts11_any hY HO.out rfl hw2 (hbx1.stp s2) (s2.blk hblk hnew.1 hnew.2).1 (s2.el lawE hel1) HH.out.2.2.2.2.2.1 HH.out.2.2.2.2.2.2.1 (by rw [List.length_append]; omega) (by omega)
    · rintro e w2 ⟨rfl, q1, q2⟩
      have F2 := Lib.hid (And.intro (q1.more (n' := n + 2 * (([b.name]).length + wtE b.body)) (by omega)) (hk1.2.trans q2))
      clear q1 q2 hk1 hbx1 hel1 hrow1 hblk hnew
      go_wp2
      go_ret
      exact ⟨rfl, F2.out⟩
  · have hD2 : D = b.names := by rw [← hD]; unfold TA.binders; rw [if_neg (by omega)]
    subst hD2
    have d1 : ((tk : Int) == 2) = false := by
      have : ¬ (tk : Int) = 2 := by omega
      simpa using this
    clear hD htk hk2
    go_enter Try.func71, Try.ntmps71
    go_wp2_with fail
    obtain ⟨W1, hW1⟩ : ∃ W1, W.alloc (.cells #[.int .i64 (tk : Int), .string ⟨b.name.toArray⟩, .bool tf, .int .u64 (tb : Int), .slice pa pn pc, .int .i64 (k : Int), .string nm, .bool fl, .int .u64 (bi : Int), .slice a0 n0 c0', .slice a1 n1 c1, .slice a2 n2 c2, .slice a3 n3 c3] 54) = W1 := ⟨_, rfl⟩
    rw [hW1]
    have hnew := hY.new HH.out.1 (c := #[.int .i64 (tk : Int), .string ⟨b.name.toArray⟩, .bool tf, .int .u64 (tb : Int), .slice pa pn pc, .int .i64 (k : Int), .string nm, .bool fl, .int .u64 (bi : Int), .slice a0 n0 c0', .slice a1 n1 c1, .slice a2 n2 c2, .slice a3 n3 c3]) (t := 54)
    rw [hW1] at hnew
    have hblk : Blk W1 W.heap.size ([.int .i64 (tk : Int), .string ⟨b.name.toArray⟩, .bool tf, .int .u64 (tb : Int), .slice pa pn pc] ++ [.int .i64 (k : Int), .string nm, .bool fl, .int .u64 (bi : Int), .slice a0 n0 c0', .slice a1 n1 c1, .slice a2 n2 c2, .slice a3 n3 c3] : List Value).toArray 54 := hW1 ▸ Blk.new _ _ _
    have hk1 := HH.out.1.keep hY (B := W1) (by rw [← hW1]; (repeat (first | (with_reducible exact Fr.refl _ _) | (with_reducible assumption) | (with_reducible exact Fr.of_nil (by assumption)) | (with_reducible refine Fr.drew ?_) | (with_reducible refine Fr.drewN ?_ _) | (with_reducible refine Fr.alloc ?_ _) | (with_reducible refine Fr.set ?_ _ _ (by first | (intros; omega) | (simp; done) | (simp; omega))) | (with_reducible refine Fr.via ?_ (by assumption)) | (with_reducible refine Fr.comp ?_ (by assumption)))))
    clear hW1
    have hrow1 : RowS (XO mb O W1) W1 (.slice pa pn pc) b.names := hk1.2.row HH.out.2.2.1 (by decide)
    have e0 : pn = b.names.length := by
      obtain ⟨_, _, e, _⟩ := hrow1
      injection e
    have hbx1 := HH.out.2.1.stp hk1.2
    have hel1 := hk1.2.el lawE HH.out.2.2.2.1
    obtain ⟨_, _, H1, H2, H3⟩ := HH.out.2.2.2.2
    refine (within_any hY b.names hk1.1 hrow1 HH.out.2.2.2.2.1 (by omega) (by omega) (gf := 72) (c1 := cb) (c2 := W.heap.size) (pre2 := pre ++ occE b.body (b.names ++ bl)) (n2 := n + (b.names).length + 2 * wtE b.body) (enters_of Try.func72 (by kernel_rfl) rfl) (fun W2 s2 hw2 => ?_) (by omega)).mono ?_
    · exact alts11_any hY HO.out rfl hw2 (hbx1.stp s2) (s2.blk hblk hnew.1 hnew.2).1 (s2.el lawE hel1) HH.out.2.2.2.2.2.1 HH.out.2.2.2.2.2.2.1 (by rw [List.length_append]; omega) (by omega)
    · rintro e w2 ⟨rfl, q1, q2⟩
      have F2 := Lib.hid (And.intro (q1.more (n' := n + 2 * ((b.names).length + wtE b.body)) (by omega)) (hk1.2.trans q2))
      clear q1 q2 hk1 hbx1 hel1 hrow1 hblk hnew
      go_wp2
      go_ret
      exact ⟨rfl, F2.out⟩
set_option maxRecDepth 100000 in
theorem alts_any (hY : YL l mb N J O) {bs : List TA} (hOk : ∀ b ∈ bs, WalkOk l wk mb N J O b.body) {kv : Value} {kc : Nat → List Value} (h : WK l wk mb J O W pre bl n) (hk : RowC (XO mb O W) W kv bs.length 13 kc) (hk2 : ∀ i (h : i < bs.length), AAt (XO mb O W) W (kc i) bs[i]) (ho : okA bs) (h1 : pre.length + wtA bs ≤ N) (h2 : bl.length ≤ n) (h3 : n + 2 * wtA bs ≤ 900000) :
    Calls Try.prog 48 #[.pointer (some ⟨wk, 0, none⟩), kv] W fun r W' => r = .returned (.bool true) ∧ WK l wk mb J O W' (pre ++ occA bs bl) bl (n + 2 * wtA bs) ∧ Stp mb O W W' := by
  obtain ⟨sa, cap, rfl⟩ := hk.shape
  have hmx : bs.length ≤ 9223372036854775807 := by
    obtain ⟨_, _, _, q1, q2, _⟩ := hk
    unfold maxLen at q2
    omega
  have HH := Lib.hid (And.intro h (And.intro hk (And.intro hk2 (And.intro ho (And.intro h1 (And.intro h2 h3))))))
  have HO := Lib.hid hOk
  clear h hk hk2 ho h1 h2 h3 hOk
  go_enter Try.func48, Try.ntmps48
  go_wp2_with fail
  obtain ⟨W1, hW1⟩ : ∃ W1, W.alloc (.cells #[.pointer (some ⟨wk, 0, none⟩)] 70) = W1 := ⟨_, rfl⟩
  rw [hW1]
  have hbox : Box (wk := wk) (mb := mb) (O := O) W1 W.heap.size := by
    have := hY.new HH.out.1 (c := #[.pointer (some ⟨wk, 0, none⟩)]) (t := 70)
    rw [hW1] at this
    exact ⟨hW1 ▸ Blk.new _ _ _, this.1, this.2⟩
  have hk1 := HH.out.1.keep hY (B := W1) (by rw [← hW1]; (repeat (first | (with_reducible exact Fr.refl _ _) | (with_reducible assumption) | (with_reducible exact Fr.of_nil (by assumption)) | (with_reducible refine Fr.drew ?_) | (with_reducible refine Fr.drewN ?_ _) | (with_reducible refine Fr.alloc ?_ _) | (with_reducible refine Fr.set ?_ _ _ (by first | (intros; omega) | (simp; done) | (simp; omega))) | (with_reducible refine Fr.via ?_ (by assumption)) | (with_reducible refine Fr.comp ?_ (by assumption)))))
  clear hW1
  have hrow1 := hk1.2.row HH.out.2.1 (by decide)
  have hel1 : ∀ i (h : i < bs.length), AAt (XO mb O W1) W1 (kc i) bs[i] := fun i hi => hk1.2.el lawA (HH.out.2.2.1 i hi)
  refine (hasA_any (H := fun i A => WK l wk mb J O A (pre ++ occA (bs.take i) bl) bl (n + 2 * wtA (bs.take i)) ∧ Stp mb O W1 A) (cs := kc) (enters_of Try.func71 (by kernel_rfl) rfl) hmx (fun i hi => (hel1 i hi).formA) (fun i A hi hA => ?_) (fun i A hi hA => ?_) ?_).mono ?_
  · obtain ⟨b, off, e, _, hc⟩ := (hA.2.row hrow1 (by decide)).at hi
    exact ⟨b, off, e, hc⟩
  · have hw := wtA_take hi
    have hle := wtA_take_le bs (i + 1)
    have hlo := occA_le (bs.take i) bl
    have hm : bs[i] ∈ bs := List.getElem_mem hi
    have hok := okA_mem HH.out.2.2.2.1 hm
    have hbl := binders_le bs[i]
    refine (alts1_any hY (HO.out _ hm) hA.1 (hbox.stp hA.2) (hA.2.el lawA (hel1 i hi)) hok.1 hok.2 (by have := HH.out.2.2.2.2.1; rw [List.length_append]; omega) (by have := HH.out.2.2.2.2.2.1; omega) (by have := HH.out.2.2.2.2.2.2; omega)).mono ?_
    rintro e w2 ⟨rfl, q1, q2⟩
    refine ⟨rfl, ?_, hA.2.trans q2⟩
    rw [occA_take hi, ← List.append_assoc]
    exact q1.more (by omega)
  · refine ⟨?_, Stp.refl _⟩
    simpa [occA, wtA] using hk1.1
  · rintro e w2 ⟨rfl, q1, q2⟩
    rw [List.take_length] at q1
    have H2 := Lib.hid (And.intro q1 (hk1.2.trans q2))
    clear q1 q2 hk1 hrow1 hel1 hbox
    go_wp2
    go_ret
    exact ⟨rfl, H2.out⟩
end
end Go.Proofs.Ythpenpgcacikaaa
