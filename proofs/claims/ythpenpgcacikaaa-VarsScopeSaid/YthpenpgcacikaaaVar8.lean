/-
  The walker's walk (layer 12): at a lambda, a let, and all else; by induction at every expression. No conditions.
-/
import Derived.Test.YthpenpgcacikaaaVar7
namespace Go.Proofs.Ythpenpgcacikaaa
set_option linter.unusedSimpArgs false
set_option linter.unusedVariables false
open Go.RowKit

theorem strC_app (a b : List (List UInt8)) : strC (a ++ b) = strC a ++ strC b := by simp [strC]
theorem nmB_take {bs : List TB} {i : Nat} (h : i < bs.length) : nmB (bs.take (i + 1)) = nmB (bs.take i) ++ [bs[i].name] := by
  rw [List.take_succ_eq_append_getElem h]
  unfold nmB
  rw [List.map_append]
  rfl
section
variable {l wk mb N : Nat} {J : List (List UInt8) → World → Prop} {O : World → Nat → Prop} {W A B : World} {pre bl : List (List UInt8)} {n : Nat}
theorem YL.fresh' (hY : YL l mb N J O) (h : WK l wk mb J O A pre bl n) (f : Fr Nil A B) : ∀ k, O B k → A.heap.size ≤ k → False := fun k q hk => by
  have := hY.lt _ _ _ h.j ((hY.fr _ _ _ h.j (f.mono (fun _ _ q => q.elim))).2 _ q)
  omega
/-- What a call of a closure of an expression's is told. -/
structure ExAt (W : World) (cb eb : Nat) (nm : List UInt8) (kc bc ac : Nat → List Value) (ks : List TE) (bs : List TB) (al : List TA) (k : Nat) (fl : Bool) (bi : Nat) (a0 : Option Addr) (n0 c0 : Nat) (a1 : Option Addr) (c1 : Nat) (a2 : Option Addr) (c2 : Nat) (a3 : Option Addr) (c3 : Nat) : Prop where
  box : Box (wk := wk) (mb := mb) (O := O) W cb
  eblk : Blk W eb ([.int .i64 (k : Int), .string ⟨nm.toArray⟩, .bool fl, .int .u64 (bi : Int), .slice a0 n0 c0, .slice a1 ks.length c1, .slice a2 bs.length c2, .slice a3 al.length c3] : List Value).toArray 32
  eo : ¬ O W eb
  em : eb ≠ mb
  hk : RowC (XO mb O W) W (.slice a1 ks.length c1) ks.length 8 kc
  hk2 : ∀ i (h : i < ks.length), EAt (XO mb O W) W (kc i) ks[i]
  hb : RowC (XO mb O W) W (.slice a2 bs.length c2) bs.length 10 bc
  hb2 : ∀ i (h : i < bs.length), BAt (XO mb O W) W (bc i) bs[i]
  ha : RowC (XO mb O W) W (.slice a3 al.length c3) al.length 13 ac
  ha2 : ∀ i (h : i < al.length), AAt (XO mb O W) W (ac i) al[i]
theorem ExAt.stp {cb eb : Nat} {nm : List UInt8} {kc bc ac : Nat → List Value} {ks : List TE} {bs : List TB} {al : List TA} {k : Nat} {fl : Bool} {bi : Nat} {a0 : Option Addr} {n0 c0 : Nat} {a1 : Option Addr} {c1 : Nat} {a2 : Option Addr} {c2 : Nat} {a3 : Option Addr} {c3 : Nat}
    (h : ExAt (wk := wk) (mb := mb) (O := O) A cb eb nm kc bc ac ks bs al k fl bi a0 n0 c0 a1 c1 a2 c2 a3 c3) (s : Stp mb O A B) : ExAt (wk := wk) (mb := mb) (O := O) B cb eb nm kc bc ac ks bs al k fl bi a0 n0 c0 a1 c1 a2 c2 a3 c3 :=
  ⟨h.box.stp s, (s.blk h.eblk h.eo h.em).1, (s.blk h.eblk h.eo h.em).2, h.em, s.row h.hk (by decide), fun i hi => s.el lawE (h.hk2 i hi), s.row h.hb (by decide), fun i hi => s.el lawB (h.hb2 i hi), s.row h.ha (by decide), fun i hi => s.el lawA (h.ha2 i hi)⟩
set_option maxRecDepth 100000 in
theorem walk2_any (hY : YL l mb N J O) {cb eb : Nat} {nm : List UInt8} {kc bc ac : Nat → List Value} {ks : List TE} {bs : List TB} {al : List TA} {k : Nat} {fl : Bool} {bi : Nat} {a0 : Option Addr} {n0 c0 : Nat} {a1 : Option Addr} {c1 : Nat} {a2 : Option Addr} {c2 : Nat} {a3 : Option Addr} {c3 : Nat}
    (hOk : ∀ e ∈ ks, WalkOk l wk mb N J O e) (h : WK l wk mb J O W pre bl n) (hx : ExAt (wk := wk) (mb := mb) (O := O) W cb eb nm kc bc ac ks bs al k fl bi a0 n0 c0 a1 c1 a2 c2 a3 c3) (ho : okK ks) (h1 : pre.length + wtK ks ≤ N) (h2 : bl.length ≤ n) (h3 : n + 2 * wtK ks ≤ 900000) :
    Calls Try.prog 47 #[.pointer (some ⟨cb, 0, none⟩), .pointer (some ⟨eb, 0, none⟩)] W fun r W' => r = .returned (.bool true) ∧ WK l wk mb J O W' (pre ++ occK ks bl) bl (n + 2 * wtK ks) ∧ Stp mb O W W' := by
  have t0 := hx.box.b.cell 0
  have t1 := hx.box.b.lt
  have e5 := hx.eblk.cell 5
  have e6 := hx.eblk.lt
  simp at t0 e5
  have HK := Lib.hid (kids_any hY hOk h hx.hk hx.hk2 ho h1 h2 h3)
  clear hOk h hx ho h1 h2 h3
  go_enter Try.func47, Try.ntmps47
  go_wp2_with fail
  refine HK.out.mono ?_
  rintro e w2 ⟨rfl, q⟩
  have H2 := Lib.hid q
  clear q
  go_wp2
  go_ret
  exact ⟨rfl, H2.out⟩
set_option maxRecDepth 100000 in
theorem walk1_any (hY : YL l mb N J O) {cb eb : Nat} {nm : List UInt8} {kc bc ac : Nat → List Value} {ks : List TE} {bs : List TB} {al : List TA} {k : Nat} {fl : Bool} {bi : Nat} {a0 : Option Addr} {n0 c0 : Nat} {a1 : Option Addr} {c1 : Nat} {a2 : Option Addr} {c2 : Nat} {a3 : Option Addr} {c3 : Nat}
    (hOk : ∀ e ∈ ks, WalkOk l wk mb N J O e) (hOb : ∀ b ∈ bs, WalkOk l wk mb N J O b.body) (h : WK l wk mb J O W pre bl n) (hx : ExAt (wk := wk) (mb := mb) (O := O) W cb eb nm kc bc ac ks bs al k fl bi a0 n0 c0 a1 c1 a2 c2 a3 c3) (ho : okK ks) (hob : okB bs) (h1 : pre.length + wnB bs + wtK ks ≤ N) (h2 : bl.length ≤ n) (h3 : n + 2 * wnB bs + 2 * wtK ks ≤ 900000) :
    Calls Try.prog 44 #[.pointer (some ⟨cb, 0, none⟩), .pointer (some ⟨eb, 0, none⟩)] W fun r W' => r = .returned (.bool true) ∧ WK l wk mb J O W' (pre ++ occB bs bl ++ occK ks bl) bl (n + 2 * wnB bs + 2 * wtK ks) ∧ Stp mb O W W' := by
  have t0 := hx.box.b.cell 0
  have t1 := hx.box.b.lt
  have e5 := hx.eblk.cell 6
  have e6 := hx.eblk.lt
  simp at t0 e5
  have HK := Lib.hid (binds_any hY hOb h hx.hb hx.hb2 hob (by omega) h2 (by omega))
  have HX := Lib.hid (And.intro hx (And.intro ho (And.intro h1 (And.intro h2 h3))))
  have HO := Lib.hid hOk
  clear hOk hOb h hx ho hob h1 h2 h3
  go_enter Try.func44, Try.ntmps44
  go_wp2_with fail
  refine HK.out.mono ?_
  rintro e w2 ⟨rfl, q1, q2⟩
  have hx2 := HX.out.1.stp q2
  clear t0 t1 e5 e6
  have t0 := hx2.box.b.cell 0
  have t1 := hx2.box.b.lt
  have e5 := hx2.eblk.cell 5
  have e6 := hx2.eblk.lt
  simp at t0 e5
  have hlo := occB_len bs bl
  have HK2 := Lib.hid (kids_any hY HO.out q1 hx2.hk hx2.hk2 HX.out.2.1 (by have := HX.out.2.2.1; rw [List.length_append]; omega) (by have := HX.out.2.2.2.1; omega) (by have := HX.out.2.2.2.2; omega))
  have HS := Lib.hid q2
  clear q1 q2 hx2 hlo
  go_wp2_with fail
  refine HK2.out.mono ?_
  rintro e w3 ⟨rfl, q1, q2⟩
  have H2 := Lib.hid (And.intro q1 (HS.out.trans q2))
  clear q1 q2
  go_wp2
  go_ret
  exact ⟨rfl, H2.out⟩
set_option maxRecDepth 100000 in
set_option maxHeartbeats 2000000 in
theorem walk_else (hY : YL l mb N J O) {k : Nat} {nm : List UInt8} {fl : Bool} {bi : Nat} {ps : List (List UInt8)} {ks : List TE} {bs : List TB} {al : List TA} (hk1 : k ≠ 1) (hk6 : k ≠ 6) (hk8 : k ≠ 8) (hK : ∀ e ∈ ks, WalkOk l wk mb N J O e) (hA : ∀ b ∈ al, WalkOk l wk mb N J O b.body) : WalkOk l wk mb N J O (.mk k nm fl bi ps ks bs al) := by
  have eo : ∀ bl, occE (.mk k nm fl bi ps ks bs al) bl = occK ks bl ++ occA al bl := fun bl => by unfold occE; rw [if_neg hk1, if_neg hk6, if_neg hk8]
  have ew : wtK ks + wtA al ≤ wtE (.mk k nm fl bi ps ks bs al) := by unfold wtE; omega
  have d1 : ((k : Int) == 1) = false := by
    have : ¬ (k : Int) = 1 := by omega
    simpa using this
  have d6 : ((k : Int) == 6) = false := by
    have : ¬ (k : Int) = 6 := by omega
    simpa using this
  have d8 : ((k : Int) == 8) = false := by
    have : ¬ (k : Int) = 8 := by omega
    simpa using this
  have HW := Lib.hid (And.intro eo ew)
  have HO := Lib.hid (And.intro hK hA)
  clear eo ew hK hA hk1 hk6 hk8
  intro W pre bl m cs h hE ho h1 h2 h3
  cases hE with
  | mk kc bc ac be ae bp an hp hk hk2 hb hb1 hb2 hb3 ha ha1 ha2 ha3 =>
  have hbb : ∀ i (h : i < bs.length), BAt (XO mb O W) W (bc i) bs[i] := fun i hi => ⟨bp i, be i, hb1 i hi, hb2 i hi, hb3 i hi⟩
  have haa : ∀ i (h : i < al.length), AAt (XO mb O W) W (ac i) al[i] := fun i hi => ⟨an i, ae i, ha1 i hi, ha2 i hi, ha3 i hi⟩
  obtain ⟨a0, c0, rfl⟩ := RowC.shape hp
  obtain ⟨a1, c1, rfl⟩ := hk.shape
  obtain ⟨a2, c2, rfl⟩ := hb.shape
  obtain ⟨a3, c3, rfl⟩ := ha.shape
  have HR := Lib.hid (And.intro hp (And.intro hk (And.intro hk2 (And.intro hb (And.intro hbb (And.intro ha haa))))))
  obtain ⟨wt, hwt⟩ : ∃ wt, wtE (.mk k nm fl bi ps ks bs al) = wt := ⟨_, rfl⟩
  obtain ⟨R, hR⟩ : ∃ R, occE (.mk k nm fl bi ps ks bs al) bl = R := ⟨_, rfl⟩
  rw [hR, hwt]
  rw [hwt] at h1 h3
  have HE := Lib.hid (And.intro hR hwt)
  have HH := Lib.hid (And.intro h (And.intro ho (And.intro h1 (And.intro h2 h3))))
  clear h ho h1 h2 h3 hp hk hk2 hb hb1 hb2 hb3 ha ha1 ha2 ha3 hbb haa hR hwt
  obtain ⟨nk, hnk⟩ : ∃ nk, ks.length = nk := ⟨_, rfl⟩
  obtain ⟨nb, hnb⟩ : ∃ nb, bs.length = nb := ⟨_, rfl⟩
  obtain ⟨na, hna⟩ : ∃ na, al.length = na := ⟨_, rfl⟩
  obtain ⟨np, hnp⟩ : ∃ np, ps.length = np := ⟨_, rfl⟩
  rw [hnk, hnb, hna, hnp]
  have HN := Lib.hid (And.intro hnk (And.intro hnb (And.intro hna hnp)))
  clear hnk hnb hna hnp
  go_enter Try.func32, Try.ntmps32
  go_wp2_with fail
  obtain ⟨W1, hW1⟩ : ∃ W1, (W.alloc (.cells #[.pointer (some ⟨wk, 0, none⟩)] 70)).alloc (.cells #[.int .i64 (k : Int), .string ⟨nm.toArray⟩, .bool fl, .int .u64 (bi : Int), .slice a0 np c0, .slice a1 nk c1, .slice a2 nb c2, .slice a3 na c3] 32) = W1 := ⟨_, rfl⟩
  rw [hW1]
  have f1 : Fr Nil W W1 := by rw [← hW1]; (repeat (first | (with_reducible exact Fr.refl _ _) | (with_reducible assumption) | (with_reducible exact Fr.of_nil (by assumption)) | (with_reducible refine Fr.drew ?_) | (with_reducible refine Fr.drewN ?_ _) | (with_reducible refine Fr.alloc ?_ _) | (with_reducible refine Fr.set ?_ _ _ (by first | (intros; omega) | (simp; done) | (simp; omega))) | (with_reducible refine Fr.via ?_ (by assumption)) | (with_reducible refine Fr.comp ?_ (by assumption))))
  have hk1 := HH.out.1.keep hY f1
  have b1 : Blk W1 W.heap.size #[.pointer (some ⟨wk, 0, none⟩)] 70 := by rw [← hW1]; (unfold Blk; simp (disch := first | omega | (simp; done) | (simp; omega)) only [hp_drew, hp_drewN, hp_alloc, hp_other, hp_same, hp_new, upd_cells, Option.map_some])
  have b2 : Blk W1 (W.heap.size + 1) #[.int .i64 (k : Int), .string ⟨nm.toArray⟩, .bool fl, .int .u64 (bi : Int), .slice a0 np c0, .slice a1 nk c1, .slice a2 nb c2, .slice a3 na c3] 32 := by rw [← hW1]; (unfold Blk; simp (disch := first | omega | (simp; done) | (simp; omega)) only [hp_drew, hp_drewN, hp_alloc, hp_other, hp_same, hp_new, upd_cells, Option.map_some])
  have hx1 : ExAt (wk := wk) (mb := mb) (O := O) W1 W.heap.size (W.heap.size + 1) nm kc bc ac ks bs al k fl bi a0 np c0 a1 c1 a2 c2 a3 c3 :=
    ⟨⟨b1, fun q => hY.fresh' HH.out.1 f1 _ q (Nat.le_refl _), fun q => by have := HH.out.1.m.lt; omega⟩, by rw [HN.out.1, HN.out.2.1, HN.out.2.2.1]; exact b2, fun q => hY.fresh' HH.out.1 f1 _ q (by omega), fun q => by have := HH.out.1.m.lt; omega,
      hk1.2.row HR.out.2.1 (by decide), fun i hi => hk1.2.el lawE (HR.out.2.2.1 i hi), hk1.2.row HR.out.2.2.2.1 (by decide), fun i hi => hk1.2.el lawB (HR.out.2.2.2.2.1 i hi), hk1.2.row HR.out.2.2.2.2.2.1 (by decide), fun i hi => hk1.2.el lawA (HR.out.2.2.2.2.2.2 i hi)⟩
  clear hW1 f1
  have hew : wtK ks + wtA al ≤ wt := by rw [← HE.out.2]; exact HW.out.2
  have HK := Lib.hid (kids_any hY HO.out.1 hk1.1 hx1.hk hx1.hk2 HH.out.2.1.2.2.1 (by have := HH.out.2.2.1; omega) HH.out.2.2.2.1 (by have := HH.out.2.2.2.2; omega))
  rw [HN.out.1] at HK
  refine HK.out.mono ?_
  rintro e w2 ⟨rfl, q1, q2⟩
  have hx2 := hx1.stp q2
  have t0 := hx2.box.b.cell 0
  have t1 := hx2.box.b.lt
  have e5 := hx2.eblk.cell 7
  have e6 := hx2.eblk.lt
  simp at t0 e5
  rw [HN.out.2.2.1] at e5
  have hlo := occK_le ks bl
  have HK2 := Lib.hid (alts_any hY HO.out.2 q1 hx2.ha hx2.ha2 HH.out.2.1.2.2.2.2 (by have := HH.out.2.2.1; rw [List.length_append]; omega) (by have := HH.out.2.2.2.1; omega) (by have := HH.out.2.2.2.2; omega))
  rw [HN.out.2.2.1] at HK2
  have HS := Lib.hid (hk1.2.trans q2)
  have HT := Lib.hid hew
  clear q1 q2 hx1 hx2 hlo hk1 HK hew b1 b2
  go_wp2_with fail
  refine HK2.out.mono ?_
  rintro e w3 ⟨rfl, q1, q2⟩
  have H2 := Lib.hid (And.intro q1 (HS.out.trans q2))
  clear q1 q2
  go_wp2
  go_ret
  refine ⟨rfl, ?_, H2.out.2⟩
  rw [← HE.out.1, HW.out.1, ← List.append_assoc]
  exact H2.out.1.more (by have := HT.out; omega)
set_option maxRecDepth 100000 in
set_option maxHeartbeats 2000000 in
theorem walk_lam (hY : YL l mb N J O) {nm : List UInt8} {fl : Bool} {bi : Nat} {ps : List (List UInt8)} {ks : List TE} {bs : List TB} {al : List TA} (hK : ∀ e ∈ ks, WalkOk l wk mb N J O e) : WalkOk l wk mb N J O (.mk 8 nm fl bi ps ks bs al) := by
  have eo : ∀ bl, occE (.mk 8 nm fl bi ps ks bs al) bl = occK ks (ps ++ bl) := fun bl => by unfold occE; rw [if_neg (by decide), if_neg (by decide), if_pos rfl]
  have ew : ps.length + wtK ks ≤ wtE (.mk 8 nm fl bi ps ks bs al) := by unfold wtE; omega
  have HW := Lib.hid (And.intro eo ew)
  have HO := Lib.hid hK
  clear eo ew hK
  intro W pre bl m cs h hE ho h1 h2 h3
  cases hE with
  | mk kc bc ac be ae bp an hp hk hk2 hb hb1 hb2 hb3 ha ha1 ha2 ha3 =>
  have hbb : ∀ i (h : i < bs.length), BAt (XO mb O W) W (bc i) bs[i] := fun i hi => ⟨bp i, be i, hb1 i hi, hb2 i hi, hb3 i hi⟩
  have haa : ∀ i (h : i < al.length), AAt (XO mb O W) W (ac i) al[i] := fun i hi => ⟨an i, ae i, ha1 i hi, ha2 i hi, ha3 i hi⟩
  obtain ⟨a0, c0, rfl⟩ := RowC.shape hp
  obtain ⟨a1, c1, rfl⟩ := hk.shape
  obtain ⟨a2, c2, rfl⟩ := hb.shape
  obtain ⟨a3, c3, rfl⟩ := ha.shape
  have HR := Lib.hid (And.intro hp (And.intro hk (And.intro hk2 (And.intro hb (And.intro hbb (And.intro ha haa))))))
  obtain ⟨wt, hwt⟩ : ∃ wt, wtE (.mk 8 nm fl bi ps ks bs al) = wt := ⟨_, rfl⟩
  obtain ⟨R, hR⟩ : ∃ R, occE (.mk 8 nm fl bi ps ks bs al) bl = R := ⟨_, rfl⟩
  rw [hR, hwt]
  rw [hwt] at h1 h3
  have HE := Lib.hid (And.intro hR hwt)
  have HH := Lib.hid (And.intro h (And.intro ho (And.intro h1 (And.intro h2 h3))))
  clear h ho h1 h2 h3 hp hk hk2 hb hb1 hb2 hb3 ha ha1 ha2 ha3 hbb haa hR hwt
  obtain ⟨nk, hnk⟩ : ∃ nk, ks.length = nk := ⟨_, rfl⟩
  obtain ⟨nb, hnb⟩ : ∃ nb, bs.length = nb := ⟨_, rfl⟩
  obtain ⟨na, hna⟩ : ∃ na, al.length = na := ⟨_, rfl⟩
  obtain ⟨np, hnp⟩ : ∃ np, ps.length = np := ⟨_, rfl⟩
  rw [hnk, hnb, hna, hnp]
  have HN := Lib.hid (And.intro hnk (And.intro hnb (And.intro hna hnp)))
  clear hnk hnb hna hnp
  go_enter Try.func32, Try.ntmps32
  go_wp2_with fail
  obtain ⟨W1, hW1⟩ : ∃ W1, (W.alloc (.cells #[.pointer (some ⟨wk, 0, none⟩)] 70)).alloc (.cells #[.int .i64 8, .string ⟨nm.toArray⟩, .bool fl, .int .u64 (bi : Int), .slice a0 np c0, .slice a1 nk c1, .slice a2 nb c2, .slice a3 na c3] 32) = W1 := ⟨_, rfl⟩
  rw [hW1]
  have f1 : Fr Nil W W1 := by rw [← hW1]; (repeat (first | (with_reducible exact Fr.refl _ _) | (with_reducible assumption) | (with_reducible exact Fr.of_nil (by assumption)) | (with_reducible refine Fr.drew ?_) | (with_reducible refine Fr.drewN ?_ _) | (with_reducible refine Fr.alloc ?_ _) | (with_reducible refine Fr.set ?_ _ _ (by first | (intros; omega) | (simp; done) | (simp; omega))) | (with_reducible refine Fr.via ?_ (by assumption)) | (with_reducible refine Fr.comp ?_ (by assumption))))
  have hk1 := HH.out.1.keep hY f1
  have b1 : Blk W1 W.heap.size #[.pointer (some ⟨wk, 0, none⟩)] 70 := by rw [← hW1]; (unfold Blk; simp (disch := first | omega | (simp; done) | (simp; omega)) only [hp_drew, hp_drewN, hp_alloc, hp_other, hp_same, hp_new, upd_cells, Option.map_some])
  have b2 : Blk W1 (W.heap.size + 1) #[.int .i64 8, .string ⟨nm.toArray⟩, .bool fl, .int .u64 (bi : Int), .slice a0 np c0, .slice a1 nk c1, .slice a2 nb c2, .slice a3 na c3] 32 := by rw [← hW1]; (unfold Blk; simp (disch := first | omega | (simp; done) | (simp; omega)) only [hp_drew, hp_drewN, hp_alloc, hp_other, hp_same, hp_new, upd_cells, Option.map_some])
  have hx1 : ExAt (wk := wk) (mb := mb) (O := O) W1 W.heap.size (W.heap.size + 1) nm kc bc ac ks bs al 8 fl bi a0 np c0 a1 c1 a2 c2 a3 c3 :=
    ⟨⟨b1, fun q => hY.fresh' HH.out.1 f1 _ q (Nat.le_refl _), fun q => by have := HH.out.1.m.lt; omega⟩, by rw [HN.out.1, HN.out.2.1, HN.out.2.2.1]; exact b2, fun q => hY.fresh' HH.out.1 f1 _ q (by omega), fun q => by have := HH.out.1.m.lt; omega,
      hk1.2.row HR.out.2.1 (by decide), fun i hi => hk1.2.el lawE (HR.out.2.2.1 i hi), hk1.2.row HR.out.2.2.2.1 (by decide), fun i hi => hk1.2.el lawB (HR.out.2.2.2.2.1 i hi), hk1.2.row HR.out.2.2.2.2.2.1 (by decide), fun i hi => hk1.2.el lawA (HR.out.2.2.2.2.2.2 i hi)⟩
  clear hW1 f1
  have hew : ps.length + wtK ks ≤ wt := by rw [← HE.out.2]; exact HW.out.2
  have hr1 : RowS (XO mb O W1) W1 (.slice a0 np c0) ps := by
    rw [← HN.out.2.2.2]
    exact hk1.2.row HR.out.1 (by decide)
  refine (within_any hY ps hk1.1 hr1 HH.out.2.1.2.1 (by have := HH.out.2.2.2.2; omega) (by have := HH.out.2.2.2.1; have := HH.out.2.2.2.2; omega) (gf := 47) (c1 := W.heap.size) (c2 := W.heap.size + 1) (pre2 := pre ++ occK ks (ps ++ bl)) (n2 := m + ps.length + 2 * wtK ks) (enters_of Try.func47 (by kernel_rfl) rfl) (fun W2 s2 hw2 => ?_) (by have := HH.out.2.2.2.2; omega)).mono ?_
  · exact walk2_any hY HO.out hw2 (hx1.stp s2) HH.out.2.1.2.2.1 (by have := HH.out.2.2.1; omega) (by have := HH.out.2.2.2.1; rw [List.length_append]; omega) (by have := HH.out.2.2.2.2; omega)
  · rintro e w2 ⟨rfl, q1, q2⟩
    have H2 := Lib.hid (And.intro q1 (hk1.2.trans q2))
    have HT := Lib.hid hew
    clear q1 q2 hk1 hx1 hew hr1 b1 b2
    go_wp2
    go_ret
    refine ⟨rfl, ?_, H2.out.2⟩
    rw [← HE.out.1, HW.out.1]
    exact H2.out.1.more (by have := HT.out; omega)
set_option maxRecDepth 100000 in
set_option maxHeartbeats 4000000 in
theorem walk_let (hY : YL l mb N J O) {nm : List UInt8} {fl : Bool} {bi : Nat} {ps : List (List UInt8)} {ks : List TE} {bs : List TB} {al : List TA} (hK : ∀ e ∈ ks, WalkOk l wk mb N J O e) (hB : ∀ b ∈ bs, WalkOk l wk mb N J O b.body) : WalkOk l wk mb N J O (.mk 6 nm fl bi ps ks bs al) := by
  obtain ⟨i0, hi, hz0, hz1, hz2⟩ := info_parts infoS
  have eo : ∀ bl, occE (.mk 6 nm fl bi ps ks bs al) bl = occB bs (nmB bs ++ bl) ++ occK ks (nmB bs ++ bl) := fun bl => by unfold occE; rw [if_neg (by decide), if_pos rfl]
  have ew : wnB bs + bs.length + wtK ks ≤ wtE (.mk 6 nm fl bi ps ks bs al) := by unfold wtE; rw [wnB_eq]; omega
  have HW := Lib.hid (And.intro eo ew)
  have HO := Lib.hid (And.intro hK hB)
  clear eo ew hK hB
  intro W pre bl m cs h hE ho h1 h2 h3
  cases hE with
  | mk kc bc ac be ae bp an hp hk hk2 hb hb1 hb2 hb3 ha ha1 ha2 ha3 =>
  have hbb : ∀ i (h : i < bs.length), BAt (XO mb O W) W (bc i) bs[i] := fun i hi => ⟨bp i, be i, hb1 i hi, hb2 i hi, hb3 i hi⟩
  have haa : ∀ i (h : i < al.length), AAt (XO mb O W) W (ac i) al[i] := fun i hi => ⟨an i, ae i, ha1 i hi, ha2 i hi, ha3 i hi⟩
  obtain ⟨a0, c0, rfl⟩ := RowC.shape hp
  obtain ⟨a1, c1, rfl⟩ := hk.shape
  obtain ⟨a2, c2, rfl⟩ := hb.shape
  obtain ⟨a3, c3, rfl⟩ := ha.shape
  have HR := Lib.hid (And.intro hp (And.intro hk (And.intro hk2 (And.intro hb (And.intro hbb (And.intro ha haa))))))
  obtain ⟨wt, hwt⟩ : ∃ wt, wtE (.mk 6 nm fl bi ps ks bs al) = wt := ⟨_, rfl⟩
  obtain ⟨R, hR⟩ : ∃ R, occE (.mk 6 nm fl bi ps ks bs al) bl = R := ⟨_, rfl⟩
  rw [hR, hwt]
  rw [hwt] at h1 h3
  have HE := Lib.hid (And.intro hR hwt)
  have HH := Lib.hid (And.intro h (And.intro ho (And.intro h1 (And.intro h2 h3))))
  clear h ho h1 h2 h3 hp hk hk2 hb hb1 hb2 hb3 ha ha1 ha2 ha3 hbb haa hR hwt
  obtain ⟨nk, hnk⟩ : ∃ nk, ks.length = nk := ⟨_, rfl⟩
  obtain ⟨nb, hnb⟩ : ∃ nb, bs.length = nb := ⟨_, rfl⟩
  obtain ⟨na, hna⟩ : ∃ na, al.length = na := ⟨_, rfl⟩
  obtain ⟨np, hnp⟩ : ∃ np, ps.length = np := ⟨_, rfl⟩
  rw [hnk, hnb, hna, hnp]
  have HN := Lib.hid (And.intro hnk (And.intro hnb (And.intro hna hnp)))
  clear hnk hnb hna hnp
  go_enter Try.func32, Try.ntmps32
  go_upto_region 6 with fail
  obtain ⟨W1, hW1⟩ : ∃ W1, (W.alloc (.cells #[.pointer (some ⟨wk, 0, none⟩)] 70)).alloc (.cells #[.int .i64 6, .string ⟨nm.toArray⟩, .bool fl, .int .u64 (bi : Int), .slice a0 np c0, .slice a1 nk c1, .slice a2 nb c2, .slice a3 na c3] 32) = W1 := ⟨_, rfl⟩
  rw [hW1]
  have f1 : Fr Nil W W1 := by rw [← hW1]; (repeat (first | (with_reducible exact Fr.refl _ _) | (with_reducible assumption) | (with_reducible exact Fr.of_nil (by assumption)) | (with_reducible refine Fr.drew ?_) | (with_reducible refine Fr.drewN ?_ _) | (with_reducible refine Fr.alloc ?_ _) | (with_reducible refine Fr.set ?_ _ _ (by first | (intros; omega) | (simp; done) | (simp; omega))) | (with_reducible refine Fr.via ?_ (by assumption)) | (with_reducible refine Fr.comp ?_ (by assumption))))
  have hk1 := HH.out.1.keep hY f1
  have b1 : Blk W1 W.heap.size #[.pointer (some ⟨wk, 0, none⟩)] 70 := by rw [← hW1]; (unfold Blk; simp (disch := first | omega | (simp; done) | (simp; omega)) only [hp_drew, hp_drewN, hp_alloc, hp_other, hp_same, hp_new, upd_cells, Option.map_some])
  have b2 : Blk W1 (W.heap.size + 1) #[.int .i64 6, .string ⟨nm.toArray⟩, .bool fl, .int .u64 (bi : Int), .slice a0 np c0, .slice a1 nk c1, .slice a2 nb c2, .slice a3 na c3] 32 := by rw [← hW1]; (unfold Blk; simp (disch := first | omega | (simp; done) | (simp; omega)) only [hp_drew, hp_drewN, hp_alloc, hp_other, hp_same, hp_new, upd_cells, Option.map_some])
  have hx1 : ExAt (wk := wk) (mb := mb) (O := O) W1 W.heap.size (W.heap.size + 1) nm kc bc ac ks bs al 6 fl bi a0 np c0 a1 c1 a2 c2 a3 c3 :=
    ⟨⟨b1, fun q => hY.fresh' HH.out.1 f1 _ q (Nat.le_refl _), fun q => by have := HH.out.1.m.lt; omega⟩, by rw [HN.out.1, HN.out.2.1, HN.out.2.2.1]; exact b2, fun q => hY.fresh' HH.out.1 f1 _ q (by omega), fun q => by have := HH.out.1.m.lt; omega,
      hk1.2.row HR.out.2.1 (by decide), fun i hi => hk1.2.el lawE (HR.out.2.2.1 i hi), hk1.2.row HR.out.2.2.2.1 (by decide), fun i hi => hk1.2.el lawB (HR.out.2.2.2.2.1 i hi), hk1.2.row HR.out.2.2.2.2.2.1 (by decide), fun i hi => hk1.2.el lawA (HR.out.2.2.2.2.2.2 i hi)⟩
  clear hW1 f1
  have hew : wnB bs + bs.length + wtK ks ≤ wt := by rw [← HE.out.2]; exact HW.out.2
  have hnb9 : nb ≤ 900000 := by have := HH.out.2.2.2.2; have := HN.out.2.1; omega
  have hs1 := hk1.2.fr.size
  have t2 := b2.cell 6
  have t3 := b2.lt
  simp at t2
  have HX := Lib.hid (And.intro hx1 (And.intro hk1 hew))
  have HBX := Lib.hid (And.intro b1 b2)
  clear hx1 hk1 hew b1 b2
  go_wp2_with fail
  go_loopg [5, 34] nb (fun g vo iv wr => ∃ (k : Nat) (v : Value), v = vo ∧ g = nb - k ∧ k ≤ nb ∧ iv = .int .i64 (k : Int) ∧ Hid (wr.ownsRow W1.heap.size 9 1 v k (strC (nmB (bs.take k))) ∧ Fr Nil W1 wr))
  case atStart => exact ⟨0, _, rfl, rfl, by omega, rfl, Lib.hid ⟨by simpa [nmB, strC] using World.ownsRow_nil _ _ _ _, Fr.refl _ _⟩⟩
  case round =>
    obtain ⟨k, v, rfl, rfl, hk, rfl, HS⟩ := hrel
    have j0 : (0 : Int) ≤ (k : Int) := by omega
    have hsz := HS.out.2.size
    by_cases hlt : k < nb
    · have hkL : k < bs.length := by rw [HN.out.2.1]; exact hlt
      have wkk : IntKind.i64.wrap ((k : Int) + 1) = (k : Int) + 1 := by rw [IntKind.wrap_i64]; omega
      have j1 : (k : Int) < (nb : Int) := by omega
      obtain ⟨b, off, rfl, _, hc⟩ := (HX.out.1.hb.fr HS.out.2 (fun _ q => q.elim)).at hkL
      have hBA := HX.out.1.hb2 k hkL
      obtain ⟨bn, pa, pn, pc, k', nm', fl', bi', b0, m0, d0, b1, m1, d1, b2, m2, d2, b3, m3, d3, ec⟩ := hBA.formB
      rw [ec] at hc hBA
      obtain ⟨_, _, hbn⟩ := hBA.parts
      obtain ⟨x, hx⟩ : ∃ x, bs[k].name = x := ⟨_, rfl⟩
      rw [hx] at hbn
      subst hbn
      have HXX := Lib.hid hx
      have p0 := hc 0 _ rfl
      have p1 := hc 1 _ rfl
      have p2 := hc 2 _ rfl
      have p3 := hc 3 _ rfl
      have p4 := hc 4 _ rfl
      have p5 := hc 5 _ rfl
      have p6 := hc 6 _ rfl
      have p7 := hc 7 _ rfl
      have p8 := hc 8 _ rfl
      have p9 := hc 9 _ rfl
      simp only [Nat.add_zero] at p0
      clear hc ec hx hBA t2 t3
      go_wp2_with (first
        | (at_builtin; refine wpList_push rfl (.tmp 38) (.tmp 41) 25 rfl W1.heap.size 9 i0 (.string ⟨#[]⟩) 1 16 Try.underlying25 hi hz0 hz1 hz2 rfl (by decide) v k (strC (nmB (bs.take k))) rfl (owns_fr HS.out.1 (by (repeat (first | (with_reducible exact Fr.refl _ _) | (with_reducible assumption) | (with_reducible exact Fr.of_nil (by assumption)) | (with_reducible refine Fr.drew ?_) | (with_reducible refine Fr.drewN ?_ _) | (with_reducible refine Fr.alloc ?_ _) | (with_reducible refine Fr.set ?_ _ _ (by first | (intros; omega) | (simp; done) | (simp; omega))) | (with_reducible refine Fr.via ?_ (by assumption)) | (with_reducible refine Fr.comp ?_ (by assumption)))))) [.string ⟨x.toArray⟩] (by rw [World.size_alloc]; rfl) rfl (by simp [Value.oneCell']) (by unfold maxLen; omega) (by omega) (Nat.le_trans hsz (Fr.size (S := Nil) (by (repeat (first | (with_reducible exact Fr.refl _ _) | (with_reducible assumption) | (with_reducible exact Fr.of_nil (by assumption)) | (with_reducible refine Fr.drew ?_) | (with_reducible refine Fr.drewN ?_ _) | (with_reducible refine Fr.alloc ?_ _) | (with_reducible refine Fr.set ?_ _ _ (by first | (intros; omega) | (simp; done) | (simp; omega))) | (with_reducible refine Fr.via ?_ (by assumption)) | (with_reducible refine Fr.comp ?_ (by assumption))))))) ?_; intro v' w3 hown3 f3 hk3; have HO3 := Lib.hid (And.intro hown3 (And.intro f3 hk3)); clear hown3 f3 hk3)
        | fail)
      have hown := HS.out.1.lt
      have fw3 : Fr Nil W1 w3 := Fr.trans (S := Nil) (HS.out.2.comp (by (repeat (first | (with_reducible exact Fr.refl _ _) | (with_reducible assumption) | (with_reducible exact Fr.of_nil (by assumption)) | (with_reducible refine Fr.drew ?_) | (with_reducible refine Fr.drewN ?_ _) | (with_reducible refine Fr.alloc ?_ _) | (with_reducible refine Fr.set ?_ _ _ (by first | (intros; omega) | (simp; done) | (simp; omega))) | (with_reducible refine Fr.via ?_ (by assumption)) | (with_reducible refine Fr.comp ?_ (by assumption)))))) HO3.out.2.1 (fun q hq hk2 => by have := (hown q hk2).1; omega)
      go_roundg (nb - (k + 1))
      case rel => exact ⟨k + 1, v', rfl, by omega, by omega, by simp, Lib.hid ⟨by rw [nmB_take hkL, strC_snoc, HXX.out]; exact HO3.out.1, fw3⟩⟩
      case measure => omega
    · have j1 : ¬ (k : Int) < (nb : Int) := by omega
      obtain rfl : nb = k := by omega
      have hkw := HX.out.2.1.1.keep hY HS.out.2
      have hlen : (nmB bs).length = nb := by simp [nmB, HN.out.2.1]
      have hown : wr.ownsRow W1.heap.size 9 1 v (nmB bs).length (strC (nmB bs)) := by
        have h := HS.out.1
        rw [List.take_of_length_le (by rw [HN.out.2.1]; exact Nat.le_refl _)] at h
        rw [hlen]
        exact h
      have hrs : RowS (XO mb O wr) wr v (nmB bs) := RowS.of_own hown (fun q hq => by
        rcases hq with hq | hq
        · exact hY.lt _ _ _ HX.out.2.1.1.j ((hY.fr _ _ _ HX.out.2.1.1.j (HS.out.2.mono (fun _ _ q => q.elim))).2 _ hq)
        · have := HX.out.2.1.1.m.lt
          omega)
      obtain ⟨va, vc, rfl⟩ := owns_shape HS.out.1
      have r1 := HS.out.2.blk HBX.out.1 (fun q => q)
      have r0 := r1.cell 0
      have r2 := r1.lt
      simp at r0
      have hxw := HX.out.1.stp hkw.2
      have hokn : ∀ x ∈ nmB bs, x.length ≤ maxLen := fun x hx => by
        obtain ⟨b, hb, rfl⟩ := List.mem_map.1 hx
        exact (okB_mem HH.out.2.1.2.2.2.1 hb).1
      have HF := Lib.hid (And.intro hkw (And.intro hrs (And.intro hxw (And.intro hlen hokn))))
      have hnbs : bs.length = nb := HN.out.2.1
      have hnb2 : bs.length + (wnB bs + wtK ks) ≤ wt := by have := HX.out.2.2; omega
      have HNB := Lib.hid (And.intro hnbs hnb2)
      clear hnbs hnb2
      clear hkw hlen hown hrs hxw hokn r1 t2 t3
      go_wp2_with fail
      refine (within_any hY (nmB bs) HF.out.1.1 HF.out.2.1 HF.out.2.2.2.2 (by have := HF.out.2.2.2.1; have := HNB.out.1; have := HNB.out.2; have := HH.out.2.2.2.2; omega) (by have := HF.out.2.2.2.1; have := HNB.out.1; have := HNB.out.2; have := HH.out.2.2.2.1; have := HH.out.2.2.2.2; omega) (gf := 44) (c1 := W.heap.size) (c2 := W.heap.size + 1) (pre2 := pre ++ occB bs (nmB bs ++ bl) ++ occK ks (nmB bs ++ bl)) (n2 := m + (nmB bs).length + 2 * wnB bs + 2 * wtK ks) (enters_of Try.func44 (by kernel_rfl) rfl) (fun W2 s2 hw2 => ?_) (by have := HF.out.2.2.2.1; have := HX.out.2.2; have := HN.out.2.1; have := HH.out.2.2.2.2; omega)).mono ?_
      · exact walk1_any hY HO.out.1 HO.out.2 hw2 (HF.out.2.2.1.stp s2) HH.out.2.1.2.2.1 HH.out.2.1.2.2.2.1 (by have := HX.out.2.2; have := HH.out.2.2.1; omega) (by have := HH.out.2.2.2.1; rw [List.length_append]; omega) (by have := HF.out.2.2.2.1; have := HX.out.2.2; have := HN.out.2.1; have := HH.out.2.2.2.2; omega)
      · rintro e w2 ⟨rfl, q1, q2⟩
        have H2 := Lib.hid (And.intro q1 ((HX.out.2.1.2.trans HF.out.1.2).trans q2))
        clear q1 q2
        go_wp2
        go_ret
        refine ⟨rfl, ?_, H2.out.2⟩
        rw [← HE.out.1, HW.out.1, ← List.append_assoc]
        exact H2.out.1.more (by have := HX.out.2.2; have := HF.out.2.2.2.1; have := HN.out.2.1; omega)
/-- Walk, at every expression. -/
theorem mem_szK {e : TE} : ∀ {ks : List TE}, e ∈ ks → szE e ≤ szK ks
  | x :: l, h => by
    have e1 : szK (x :: l) = szE x + szK l := rfl
    rcases List.mem_cons.1 h with q | q
    · subst q; omega
    · have := mem_szK q; omega
theorem mem_szB {b : TB} : ∀ {bs : List TB}, b ∈ bs → szE b.body ≤ szB bs
  | .mk n p e :: l, h => by
    have e1 : szB (.mk n p e :: l) = szE e + szB l := rfl
    rcases List.mem_cons.1 h with q | q
    · subst q; show szE e ≤ _; omega
    · have := mem_szB q; omega
theorem mem_szA {a : TA} : ∀ {al : List TA}, a ∈ al → szE a.body ≤ szA al
  | .mk k n f b p e :: l, h => by
    have e1 : szA (.mk k n f b p e :: l) = szE e + szA l := rfl
    rcases List.mem_cons.1 h with q | q
    · subst q; show szE e ≤ _; omega
    · have := mem_szA q; omega
theorem walk_all (hY : YL l mb N J O) : ∀ (m : Nat) (e : TE), szE e ≤ m → WalkOk l wk mb N J O e := by
  intro m
  induction m with
  | zero =>
    intro e he
    cases e with
    | mk k nm fl bi ps ks bs al =>
      have e1 : szE (.mk k nm fl bi ps ks bs al) = 1 + szK ks + szB bs + szA al := rfl
      omega
  | succ m ih =>
    intro e he
    cases e with
    | mk k nm fl bi ps ks bs al =>
      have e1 : szE (.mk k nm fl bi ps ks bs al) = 1 + szK ks + szB bs + szA al := rfl
      have hK : ∀ e ∈ ks, WalkOk l wk mb N J O e := fun e h => ih e (by have := mem_szK h; omega)
      have hB : ∀ b ∈ bs, WalkOk l wk mb N J O b.body := fun b h => ih b.body (by have := mem_szB h; omega)
      have hA : ∀ b ∈ al, WalkOk l wk mb N J O b.body := fun b h => ih b.body (by have := mem_szA h; omega)
      by_cases h1 : k = 1
      · subst h1
        exact walk_var hY
      by_cases h6 : k = 6
      · subst h6
        exact walk_let hY hK hB
      by_cases h8 : k = 8
      · subst h8
        exact walk_lam hY hK
      exact walk_else hY h1 h6 h8 hK hA
end
end Go.Proofs.Ythpenpgcacikaaa
