/-
  The document's ring (layer 5): Do, Alloc and Drop; Do as the relation says. Conditions: short rows, small cells.
-/
import Derived.Test.YtlpdlhmdhlcdlaaRef5i
namespace Go.Proofs.Ytlpdlhmdhlcdlaa
set_option linter.unusedSimpArgs false
set_option linter.unusedVariables false
open Go.RowKit Go.Shelf

set_option maxRecDepth 100000 in
set_option maxHeartbeats 4000000 in
theorem ddo_take {X : Nat → Prop} (sb m c : Nat) (W F G B : List Nat) (k n : Int) (w : World) (h : RefR w X sb m ⟨c :: W, F, G, B⟩) (hk : k < 0 ∨ k = 1 ∨ 6 < k) (hlW : (c :: W).length ≤ 100000) (hlB : B.length ≤ 100000) (hX : ∀ b, X b → b < w.heap.size) :
    Calls Try.prog 20 #[.pointer (some ⟨sb, 0, none⟩), .agg #[.int .i64 k, .int .i64 n]] w fun e w' => e = .returned (.agg #[.int .i64 (c : Int), .bool false, .int .i64 0]) ∧ RefR w' X sb m ⟨W, F, G, if k = 1 then B ++ [c] else B⟩ ∧ Fr (fun x => x = sb) w w' := by
  obtain ⟨B', hB'⟩ : ∃ B', (if k = 1 then B ++ [c] else B) = B' := ⟨_, rfl⟩
  rw [hB']
  have HB' := Lib.hid hB'
  clear hB'
  have HS := Lib.hid (And.intro h.at_ h.is)
  have HX := Lib.hid hX
  obtain ⟨v0, v1, v2, v3, hb, h0, h1, h2, h3⟩ := h.blk
  have lt := hb.lt
  simp only at h0 h1 h2 h3
  have hform := h0.form (by simp)
  obtain ⟨x3, k3, rfl, _⟩ := h3.fit
  have HW1 := Lib.hid (And.intro h0 (And.intro h1 (And.intro h2 h3)))
  have HS3 := Lib.hid h3.src.2
  obtain ⟨g, cap, rfl, hcap, hsg, hgl, hc⟩ := hform
  have p0 := hc 0 (by simp)
  rw [List.getElem_cons_zero, natV] at p0
  obtain ⟨N, hN⟩ : ∃ N, (c :: W).length = N := ⟨_, rfl⟩
  obtain ⟨n3, hn3⟩ : ∃ n, B.length = n := ⟨_, rfl⟩
  rw [hN] at hb HW1 hlW
  rw [hn3] at hb hlB HW1 HS3
  have hN1 : 1 ≤ N := by rw [← hN]; simp
  have HB := Lib.hid hb
  have HN := Lib.hid (And.intro hN hn3)
  have b0 : (k == 0) = false := by simp; omega
  have b2 : (k == 2) = false := by simp; omega
  have b3 : (k == 3) = false := by simp; omega
  have b4 : (k == 4) = false := by simp; omega
  have b5 : (k == 5) = false := by simp; omega
  have b6 : (k == 6) = false := by simp; omega
  have n0' : ((N : Int) == 0) = false := by simp; omega
  have n1' : ¬ (N : Int) = 0 := by omega
  have n2' : ¬ N = 0 := by omega
  have n3' : (0 : Int) < (N : Int) := by omega
  have n4' : 0 < N := by omega
  have c0 := hb.cell 0
  simp at c0
  obtain ⟨i0, hi, hz0, hz1, hz2⟩ := info_parts infoI
  clear hb h0 h1 h2 h3 h hc hN hn3 hX
  go_enter Try.func20, Try.ntmps20
  go_upto_region 23 with fail
  obtain ⟨W0, hW0⟩ : ∃ V, V = (w.alloc (.cells #[.int .i64 k, .int .i64 n] 45)).alloc (.cells #[.int .i64 0, .bool false, .int .i64 0] 47) := ⟨_, rfl⟩
  rw [← hW0]
  have f0 : Fr Nil w W0 := by rw [hW0]; (repeat (first | (with_reducible exact Fr.refl _ _) | (with_reducible assumption) | (with_reducible exact Fr.of_nil (by assumption)) | (with_reducible refine Fr.drew ?_) | (with_reducible refine Fr.drewN ?_ _) | (with_reducible refine Fr.alloc ?_ _) | (with_reducible refine Fr.set ?_ _ _ (by first | (intros; omega) | (simp; done) | (simp; omega))) | (with_reducible refine Fr.via ?_ (by assumption)) | (with_reducible refine Fr.comp ?_ (by assumption))))
  have bA : Blk W0 w.heap.size #[.int .i64 k, .int .i64 n] 45 := by rw [hW0]; (unfold Blk; simp (disch := first | omega | (simp; done) | (simp; omega)) only [hp_drew, hp_drewN, hp_alloc, hp_other, hp_same, hp_new, upd_cells, Option.map_some])
  have bT : Blk W0 (w.heap.size + 1) #[.int .i64 0, .bool false, .int .i64 0] 47 := by rw [hW0]; (unfold Blk; simp (disch := first | omega | (simp; done) | (simp; omega)) only [hp_drew, hp_drewN, hp_alloc, hp_other, hp_same, hp_new, upd_cells, Option.map_some])
  clear hW0 c0
  have bS := f0.blk HB.out (fun q => q)
  have hsz : w.heap.size ≤ W0.heap.size := f0.size
  have tl : w.heap.size + 1 < W0.heap.size := bT.lt
  have y0 := bS.cell 0
  simp at y0
  have yl := bS.lt
  have HWO := Lib.hid (without_any (c :: W) _ 0 W0 ((HW1.out.1).fr f0) (by simp) (by have := HN.out.1; omega))
  have HBB := Lib.hid (And.intro bS (And.intro bT bA))
  have ne1 : sb ≠ w.heap.size + 1 := by omega
  have ne2 : w.heap.size + 1 ≠ sb := by omega
  have ne3 : sb ≠ w.heap.size := by omega
  clear bS bT bA
  go_wp2_with fail
  refine HWO.out.mono ?_
  rintro e w5 ⟨v', rfl, hr, f5⟩
  have hr' : RowN W0.heap.size w5 v' W := by simpa using hr
  obtain ⟨z1, z2, rfl⟩ := owns_sh hr'
  have HR5 := Lib.hid hr'
  clear hr hr'
  have cS := f5.blk HBB.out.1 (fun q => q)
  have cT := f5.blk HBB.out.2.1 (fun q => q)
  have cA := f5.blk HBB.out.2.2 (fun q => q)
  have d0 := cS.cell 0
  have d0f := cS.free 0
  have dl := cS.lt
  simp at d0
  have HCS := Lib.hid (And.intro cS (And.intro cT cA))
  have sz5 := f5.size
  clear cS cT cA
  go_upto_region 24 with fail
  obtain ⟨Y, hY⟩ : ∃ Y, w5.setCell ⟨sb, 0, none⟩ (.slice z1 W.length z2) = Y := ⟨_, rfl⟩
  rw [hY]
  have xS : Blk Y sb #[.slice z1 W.length z2, v1, v2, .slice x3 n3 k3, .int .i64 (m : Int)] 58 := by
    rw [← hY]
    (unfold Blk; simp (disch := first | omega | (simp; done) | (simp; omega)) only [hp_drew, hp_drewN, hp_alloc, hp_other, hp_same, hp_new, upd_cells, Option.map_some, (HCS.out.1).eq])
    simp
  have xT : Blk Y (w.heap.size + 1) #[.int .i64 0, .bool false, .int .i64 0] 47 := by
    rw [← hY]
    (unfold Blk; simp (disch := first | omega | (simp; done) | (simp; omega)) only [hp_drew, hp_drewN, hp_alloc, hp_other, hp_same, hp_new, upd_cells, Option.map_some, (HCS.out.2.1).eq])
  have xA : Blk Y w.heap.size #[.int .i64 k, .int .i64 n] 45 := by
    rw [← hY]
    (unfold Blk; simp (disch := first | omega | (simp; done) | (simp; omega)) only [hp_drew, hp_drewN, hp_alloc, hp_other, hp_same, hp_new, upd_cells, Option.map_some, (HCS.out.2.2).eq])
  have f5Y : Fr (fun x => x = sb) w5 Y := by rw [← hY]; (repeat (first | (with_reducible exact Fr.refl _ _) | (with_reducible assumption) | (with_reducible exact Fr.of_nil (by assumption)) | (with_reducible refine Fr.drew ?_) | (with_reducible refine Fr.drewN ?_ _) | (with_reducible refine Fr.alloc ?_ _) | (with_reducible refine Fr.set ?_ _ _ (by first | (intro _; exact rfl) | (intro _; exact .inl rfl) | (intro _; exact .inr rfl) | (intro q; exact absurd q (Nat.lt_irrefl _)) | (intro q; simp at q; omega))) | (with_reducible refine Fr.via ?_ (by assumption)) | (with_reducible refine Fr.comp ?_ (by assumption))))
  have fwY : Fr (fun x => x = sb) w Y := (f0.comp f5).of_nil.comp f5Y
  clear hY d0 d0f dl y0
  have szY := f5Y.size
  have ya := xA.cell 0
  have y3 := xS.cell 3
  simp at ya y3
  have yal := xA.lt
  have ysl := xS.lt
  have HXX := Lib.hid (And.intro xS xT)
  by_cases hk1 : k = 1
  · have hBe : B ++ [c] = B' := by rw [← HB'.out, if_pos hk1]
    subst hBe
    have kk : (k == 1) = true := by simp [hk1]
    have r3 := (HW1.out.2.2.2).frS fwY HS.out.2
    have HS3' := Lib.hid r3.src.2
    have HE := Lib.hid (owns_empty Y Y.heap.size 1 3 (Nat.le_refl _))
    clear xS xT xA r3 hk hk1
    go_wp2_with (first
      | (at_builtin; refine wpList_append_src rfl (.tmp 113) (.tmp 118) 30 rfl Y.heap.size 3 i0 (.int .i64 0) 1 8 Try.underlying30 hi hz0 hz1 hz2 rfl (by decide) (.slice (some ⟨Y.heap.size, 0, none⟩) 0 0) 0 [] rfl HE.out x3 n3 k3 (B.map natV) rfl (HS3'.out _ (by (repeat (first | (with_reducible exact Fr.refl _ _) | (with_reducible assumption) | (with_reducible exact Fr.of_nil (by assumption)) | (with_reducible refine Fr.drew ?_) | (with_reducible refine Fr.drewN ?_ _) | (with_reducible refine Fr.alloc ?_ _) | (with_reducible refine Fr.set ?_ _ _ (by first | (intros; omega) | (simp; done) | (simp; omega))) | (with_reducible refine Fr.via ?_ (by assumption)) | (with_reducible refine Fr.comp ?_ (by assumption)))))) (natV_one _) (by unfold maxLen; omega) (by omega) (by first | omega | (simp <;> omega)) ?_; intro v6 w6 hown6 hgrow6 hat6; simp only [Nat.zero_add, List.nil_append] at hown6; have f6 : Fr Nil Y w6 := Fr.grown (by (repeat (first | (with_reducible exact Fr.refl _ _) | (with_reducible assumption) | (with_reducible exact Fr.of_nil (by assumption)) | (with_reducible refine Fr.drew ?_) | (with_reducible refine Fr.drewN ?_ _) | (with_reducible refine Fr.alloc ?_ _) | (with_reducible refine Fr.set ?_ _ _ (by first | (intros; omega) | (simp; done) | (simp; omega))) | (with_reducible refine Fr.via ?_ (by assumption)) | (with_reducible refine Fr.comp ?_ (by assumption))))) hgrow6 (fun k q hk => by simp [Value.ownBlock] at q; omega); have HOWN6 := Lib.hid hown6; have hsz6 := f6.size; have HLT6 := Lib.hid hown6.lt; obtain ⟨b6, k6, rfl⟩ := owns_sh hown6; clear hown6 hgrow6 hat6)
      | (at_builtin; refine wpList_append_src rfl (.tmp 119) (.tmp 121) 30 rfl Y.heap.size 3 i0 (.int .i64 0) 1 8 Try.underlying30 hi hz0 hz1 hz2 rfl (by decide) (.slice b6 n3 k6) n3 _ rfl (HOWN6.out.alloc _) (some ⟨w6.heap.size, 0, none⟩) 1 1 [.int .i64 (c : Int)] rfl (src_int (t := 3) (by (unfold Blk; simp (disch := first | omega | (simp; done) | (simp; omega)) only [hp_drew, hp_drewN, hp_alloc, hp_other, hp_same, hp_new, upd_cells, Option.map_some]))) (natV_one [c]) (by unfold maxLen; omega) (by omega) (by first | omega | (simp <;> omega)) ?_; intro v7 w7 hown7 hgrow7 hat7; have f7 : Fr Nil Y w7 := Fr.grown (f6.alloc _) hgrow7 (fun k q hk => by have := HLT6.out k q; omega); have HOWN7 := Lib.hid hown7; have hsz7 := f7.size; obtain ⟨b7, k7, rfl⟩ := owns_sh hown7; clear hown7 hgrow7 hat7; have tS := f7.blk HXX.out.1 (by simp [Nil]); have tT := f7.blk HXX.out.2 (by simp [Nil]); have u0 := tS.cell 3; have u1 := tS.free 3; have u2 := tS.lt; have t0 := tT.cell 0; have t1 := tT.cell 1; have t2 := tT.cell 2; have t3 := tT.free 0; have t4 := tT.free 1; have t5 := tT.free 2; have t6 := tT.lt; simp at u0 t0 t1 t2))
    refine bodyPost_ret (v := .agg #[.int .i64 (c : Int), .bool false, .int .i64 0]) (by simp [results, Try.results20, go_sem, t0, t1, t2, ne1, ne2]) rfl ⟨rfl, ?_, by (repeat (first | (with_reducible exact Fr.refl _ _) | (with_reducible assumption) | (with_reducible exact Fr.of_nil (by assumption)) | (with_reducible refine Fr.drew ?_) | (with_reducible refine Fr.drewN ?_ _) | (with_reducible refine Fr.alloc ?_ _) | (with_reducible refine Fr.set ?_ _ _ (by first | (intro _; exact rfl) | (intro _; exact .inl rfl) | (intro _; exact .inr rfl) | (intro q; exact absurd q (Nat.lt_irrefl _)) | (intro q; simp at q; omega))) | (with_reducible refine Fr.via ?_ (by assumption)) | (with_reducible refine Fr.comp ?_ (by assumption))))⟩
    have hN : RowN Y.heap.size w7 (.slice b7 (n3 + 1) k7) (B ++ [c]) := by
      unfold RowN
      rw [show (B ++ [c]).length = n3 + 1 by have := HN.out.2; simp; omega]
      have hh := HOWN7.out
      rw [show [Value.int .i64 (c : Int)] = [c].map natV from rfl, ← List.map_append] at hh
      exact hh
    have fin : ∀ V, Fr (fun x => x = sb ∨ x = w.heap.size + 1) w7 V → Fr (fun x => x = sb) w V → Blk V sb #[.slice z1 W.length z2, v1, v2, .slice b7 (n3 + 1) k7, .int .i64 (m : Int)] 58 → RefR V X sb m ⟨W, F, G, B ++ [c]⟩ := fun V fV fwV hB =>
      ⟨HS.out.1, _, _, _, _, hB, HR5.out.toBS (sb := sb) (T := w.heap.size + 1) (((f5Y.mono (fun _ _ q => .inl q)).via f7).comp fV) (by omega) (by omega) (fun b q => by have := HX.out b q; omega), HW1.out.2.1.frS fwV HS.out.2, HW1.out.2.2.1.frS fwV HS.out.2, hN.toBS (sb := sb) (T := w.heap.size + 1) fV (by omega) (by omega) (fun b q => by have := HX.out b q; omega)⟩
    refine fin _ ?_ ?_ ?_
    · (repeat (first | (with_reducible exact Fr.refl _ _) | (with_reducible assumption) | (with_reducible exact Fr.of_nil (by assumption)) | (with_reducible refine Fr.drew ?_) | (with_reducible refine Fr.drewN ?_ _) | (with_reducible refine Fr.alloc ?_ _) | (with_reducible refine Fr.set ?_ _ _ (by first | (intro _; exact rfl) | (intro _; exact .inl rfl) | (intro _; exact .inr rfl) | (intro q; exact absurd q (Nat.lt_irrefl _)) | (intro q; simp at q; omega))) | (with_reducible refine Fr.via ?_ (by assumption)) | (with_reducible refine Fr.comp ?_ (by assumption))))
    · (repeat (first | (with_reducible exact Fr.refl _ _) | (with_reducible assumption) | (with_reducible exact Fr.of_nil (by assumption)) | (with_reducible refine Fr.drew ?_) | (with_reducible refine Fr.drewN ?_ _) | (with_reducible refine Fr.alloc ?_ _) | (with_reducible refine Fr.set ?_ _ _ (by first | (intro _; exact rfl) | (intro _; exact .inl rfl) | (intro _; exact .inr rfl) | (intro q; exact absurd q (Nat.lt_irrefl _)) | (intro q; simp at q; omega))) | (with_reducible refine Fr.via ?_ (by assumption)) | (with_reducible refine Fr.comp ?_ (by assumption))))
    · (unfold Blk; simp (disch := first | omega | (simp; done) | (simp; omega)) only [hp_drew, hp_drewN, hp_alloc, hp_other, hp_same, hp_new, upd_cells, Option.map_some, (tS).eq])
      simp
  · have hBe : B = B' := by rw [← HB'.out, if_neg hk1]
    subst hBe
    have kk : (k == 1) = false := by simp [hk1]
    have t0 := xT.cell 0
    have t1 := xT.cell 1
    have t2 := xT.cell 2
    have t3 := xT.free 0
    have t4 := xT.free 1
    have t5 := xT.free 2
    have t6 := xT.lt
    simp at t0 t1 t2
    clear xS xT xA hk
    go_wp2
    refine bodyPost_ret (v := .agg #[.int .i64 (c : Int), .bool false, .int .i64 0]) (by simp [results, Try.results20, go_sem, t0, t1, t2, ne1, ne2]) rfl ⟨rfl, ?_, by (repeat (first | (with_reducible exact Fr.refl _ _) | (with_reducible assumption) | (with_reducible exact Fr.of_nil (by assumption)) | (with_reducible refine Fr.drew ?_) | (with_reducible refine Fr.drewN ?_ _) | (with_reducible refine Fr.alloc ?_ _) | (with_reducible refine Fr.set ?_ _ _ (by first | (intro _; exact rfl) | (intro _; exact .inl rfl) | (intro _; exact .inr rfl) | (intro q; exact absurd q (Nat.lt_irrefl _)) | (intro q; simp at q; omega))) | (with_reducible refine Fr.via ?_ (by assumption)) | (with_reducible refine Fr.comp ?_ (by assumption))))⟩
    have fin : ∀ V, Fr (fun x => x = sb ∨ x = w.heap.size + 1) Y V → Fr (fun x => x = sb) w V → Blk V sb #[.slice z1 W.length z2, v1, v2, .slice x3 n3 k3, .int .i64 (m : Int)] 58 → RefR V X sb m ⟨W, F, G, B⟩ := fun V fV fwV hB =>
      ⟨HS.out.1, _, _, _, _, hB, HR5.out.toBS (sb := sb) (T := w.heap.size + 1) ((f5Y.mono (fun _ _ q => .inl q)).comp fV) (by omega) (by omega) (fun b q => by have := HX.out b q; omega), HW1.out.2.1.frS fwV HS.out.2, HW1.out.2.2.1.frS fwV HS.out.2, HW1.out.2.2.2.frS fwV HS.out.2⟩
    refine fin _ ?_ ?_ ?_
    · (repeat (first | (with_reducible exact Fr.refl _ _) | (with_reducible assumption) | (with_reducible exact Fr.of_nil (by assumption)) | (with_reducible refine Fr.drew ?_) | (with_reducible refine Fr.drewN ?_ _) | (with_reducible refine Fr.alloc ?_ _) | (with_reducible refine Fr.set ?_ _ _ (by first | (intro _; exact rfl) | (intro _; exact .inl rfl) | (intro _; exact .inr rfl) | (intro q; exact absurd q (Nat.lt_irrefl _)) | (intro q; simp at q; omega))) | (with_reducible refine Fr.via ?_ (by assumption)) | (with_reducible refine Fr.comp ?_ (by assumption))))
    · (repeat (first | (with_reducible exact Fr.refl _ _) | (with_reducible assumption) | (with_reducible exact Fr.of_nil (by assumption)) | (with_reducible refine Fr.drew ?_) | (with_reducible refine Fr.drewN ?_ _) | (with_reducible refine Fr.alloc ?_ _) | (with_reducible refine Fr.set ?_ _ _ (by first | (intro _; exact rfl) | (intro _; exact .inl rfl) | (intro _; exact .inr rfl) | (intro q; exact absurd q (Nat.lt_irrefl _)) | (intro q; simp at q; omega))) | (with_reducible refine Fr.via ?_ (by assumption)) | (with_reducible refine Fr.comp ?_ (by assumption))))
    · (unfold Blk; simp (disch := first | omega | (simp; done) | (simp; omega)) only [hp_drew, hp_drewN, hp_alloc, hp_other, hp_same, hp_new, upd_cells, Option.map_some, (HXX.out.1).eq])
end Go.Proofs.Ytlpdlhmdhlcdlaa
