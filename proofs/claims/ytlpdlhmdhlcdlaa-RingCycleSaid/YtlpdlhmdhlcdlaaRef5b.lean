/-
  The document's ring (layer 5): Around, All, Shaded, Has, counts. Conditions: short rows.
-/
import Derived.Test.YtlpdlhmdhlcdlaaRef5a
namespace Go.Proofs.Ytlpdlhmdhlcdlaa
set_option linter.unusedSimpArgs false
set_option linter.unusedVariables false
open Go.RowKit Go.Shelf

set_option maxRecDepth 100000 in
theorem around_any {X : Nat → Prop} (S : Seg4) (v0 v1 v2 v3 : Value) (w : World) (h0 : RowB X w v0 S.W) (h1 : RowB X w v1 S.F) (h2 : RowB X w v2 S.G) (h3 : RowB X w v3 S.B) (hl : S.all.length ≤ 100000) :
    Calls Try.prog 21 #[.agg #[v0, v1, v2, v3]] w fun e w' => ∃ v', e = .returned v' ∧ RowN w.heap.size w' v' S.all ∧ Fr Nil w w' := by
  obtain ⟨W, F, G, B⟩ := S
  simp only [Seg4.all] at hl ⊢
  simp only [List.length_append] at hl
  obtain ⟨x0, c0, rfl, _⟩ := h0.fit
  obtain ⟨x1, c1, rfl, _⟩ := h1.fit
  obtain ⟨x2, c2, rfl, _⟩ := h2.fit
  obtain ⟨x3, c3, rfl, _⟩ := h3.fit
  have S0 := Lib.hid h0.src.2
  have S1 := Lib.hid h1.src.2
  have S2 := Lib.hid h2.src.2
  have S3 := Lib.hid h3.src.2
  simp only at S0 S1 S2 S3
  obtain ⟨n0, e0⟩ : ∃ n, W.length = n := ⟨_, rfl⟩
  obtain ⟨n1, e1⟩ : ∃ n, F.length = n := ⟨_, rfl⟩
  obtain ⟨n2, e2⟩ : ∃ n, G.length = n := ⟨_, rfl⟩
  obtain ⟨n3, e3⟩ : ∃ n, B.length = n := ⟨_, rfl⟩
  rw [e0] at S0 hl ⊢
  rw [e1] at S1 hl ⊢
  rw [e2] at S2 hl ⊢
  rw [e3] at S3 hl ⊢
  have HN := Lib.hid (And.intro e0 (And.intro e1 (And.intro e2 e3)))
  obtain ⟨i0, hi, hz0, hz1, hz2⟩ := info_parts infoI
  clear h0 h1 h2 h3 e0 e1 e2 e3
  go_enter Try.func21, Try.ntmps21
  go_upto_region 1 with fail
  obtain ⟨W0, hW0⟩ : ∃ V, V = w.alloc (.cells #[.slice x0 n0 c0, .slice x1 n1 c1, .slice x2 n2 c2, .slice x3 n3 c3] 32) := ⟨_, rfl⟩
  rw [← hW0]
  have f0 : Fr Nil w W0 := by rw [hW0]; (repeat (first | (with_reducible exact Fr.refl _ _) | (with_reducible assumption) | (with_reducible exact Fr.of_nil (by assumption)) | (with_reducible refine Fr.drew ?_) | (with_reducible refine Fr.drewN ?_ _) | (with_reducible refine Fr.alloc ?_ _) | (with_reducible refine Fr.set ?_ _ _ (by first | (intros; omega) | (simp; done) | (simp; omega))) | (with_reducible refine Fr.via ?_ (by assumption)) | (with_reducible refine Fr.comp ?_ (by assumption))))
  have bX : Blk W0 w.heap.size #[.slice x0 n0 c0, .slice x1 n1 c1, .slice x2 n2 c2, .slice x3 n3 c3] 32 := by rw [hW0]; (unfold Blk; simp (disch := first | omega | (simp; done) | (simp; omega)) only [hp_drew, hp_drewN, hp_alloc, hp_other, hp_same, hp_new, upd_cells, Option.map_some])
  have hsz : w.heap.size ≤ W0.heap.size := f0.size
  clear hW0
  have HE := Lib.hid (owns_empty W0 W0.heap.size 1 3 (Nat.le_refl _))
  have y0 := bX.cell 0
  have y1 := bX.cell 1
  have y2 := bX.cell 2
  have y3 := bX.cell 3
  simp at y0 y1 y2 y3
  have yl := bX.lt
  go_wp2_with (first
    | (at_builtin; refine wpList_append_src rfl (.tmp 4) (.tmp 6) 30 rfl W0.heap.size 3 i0 (.int .i64 0) 1 8 Try.underlying30 hi hz0 hz1 hz2 rfl (by decide) (.slice (some ⟨W0.heap.size, 0, none⟩) 0 0) 0 [] rfl HE.out x0 n0 c0 (W.map natV) rfl (S0.out _ (by (repeat (first | (with_reducible exact Fr.refl _ _) | (with_reducible assumption) | (with_reducible exact Fr.of_nil (by assumption)) | (with_reducible refine Fr.drew ?_) | (with_reducible refine Fr.drewN ?_ _) | (with_reducible refine Fr.alloc ?_ _) | (with_reducible refine Fr.set ?_ _ _ (by first | (intros; omega) | (simp; done) | (simp; omega))) | (with_reducible refine Fr.via ?_ (by assumption)) | (with_reducible refine Fr.comp ?_ (by assumption)))))) (natV_one _) (by unfold maxLen; omega) (by omega) (by first | omega | (simp <;> omega)) ?_; intro v5 w5 hown5 hgrow5 hat5; simp only [Nat.zero_add, List.nil_append] at hown5; have f5 : Fr Nil W0 w5 := Fr.grown (by (repeat (first | (with_reducible exact Fr.refl _ _) | (with_reducible assumption) | (with_reducible exact Fr.of_nil (by assumption)) | (with_reducible refine Fr.drew ?_) | (with_reducible refine Fr.drewN ?_ _) | (with_reducible refine Fr.alloc ?_ _) | (with_reducible refine Fr.set ?_ _ _ (by first | (intros; omega) | (simp; done) | (simp; omega))) | (with_reducible refine Fr.via ?_ (by assumption)) | (with_reducible refine Fr.comp ?_ (by assumption))))) hgrow5 (fun k q hk => by simp [Value.ownBlock] at q; omega); have HOWN5 := Lib.hid hown5; have hsz5 := f5.size; have HLT5 := Lib.hid hown5.lt; obtain ⟨b5, k5, rfl⟩ := owns_sh hown5; have t5 := f5.blk bX (by simp [Nil]); have d51 := t5.cell 1; have d52 := t5.cell 2; have d53 := t5.cell 3; simp at d51 d52 d53; have l5 := t5.lt; clear hown5 hgrow5 hat5 t5)
    | (at_builtin; refine wpList_append_src rfl (.tmp 8) (.tmp 10) 30 rfl W0.heap.size 3 i0 (.int .i64 0) 1 8 Try.underlying30 hi hz0 hz1 hz2 rfl (by decide) _ _ _ rfl HOWN5.out x1 n1 c1 (F.map natV) rfl (S1.out _ (by (repeat (first | (with_reducible exact Fr.refl _ _) | (with_reducible assumption) | (with_reducible exact Fr.of_nil (by assumption)) | (with_reducible refine Fr.drew ?_) | (with_reducible refine Fr.drewN ?_ _) | (with_reducible refine Fr.alloc ?_ _) | (with_reducible refine Fr.set ?_ _ _ (by first | (intros; omega) | (simp; done) | (simp; omega))) | (with_reducible refine Fr.via ?_ (by assumption)) | (with_reducible refine Fr.comp ?_ (by assumption)))))) (natV_one _) (by unfold maxLen; omega) (by omega) (by first | omega | (simp <;> omega)) ?_; intro v6 w6 hown6 hgrow6 hat6; have f6 : Fr Nil W0 w6 := Fr.grown f5 hgrow6 (fun k q hk => by have := HLT5.out k q; omega); have HOWN6 := Lib.hid hown6; have hsz6 := f6.size; have HLT6 := Lib.hid hown6.lt; obtain ⟨b6, k6, rfl⟩ := owns_sh hown6; have t6 := f6.blk bX (by simp [Nil]); have d61 := t6.cell 1; have d62 := t6.cell 2; have d63 := t6.cell 3; simp at d61 d62 d63; have l6 := t6.lt; clear hown6 hgrow6 hat6 t6)
    | (at_builtin; refine wpList_append_src rfl (.tmp 12) (.tmp 14) 30 rfl W0.heap.size 3 i0 (.int .i64 0) 1 8 Try.underlying30 hi hz0 hz1 hz2 rfl (by decide) _ _ _ rfl HOWN6.out x2 n2 c2 (G.map natV) rfl (S2.out _ (by (repeat (first | (with_reducible exact Fr.refl _ _) | (with_reducible assumption) | (with_reducible exact Fr.of_nil (by assumption)) | (with_reducible refine Fr.drew ?_) | (with_reducible refine Fr.drewN ?_ _) | (with_reducible refine Fr.alloc ?_ _) | (with_reducible refine Fr.set ?_ _ _ (by first | (intros; omega) | (simp; done) | (simp; omega))) | (with_reducible refine Fr.via ?_ (by assumption)) | (with_reducible refine Fr.comp ?_ (by assumption)))))) (natV_one _) (by unfold maxLen; omega) (by omega) (by first | omega | (simp <;> omega)) ?_; intro v7 w7 hown7 hgrow7 hat7; have f7 : Fr Nil W0 w7 := Fr.grown f6 hgrow7 (fun k q hk => by have := HLT6.out k q; omega); have HOWN7 := Lib.hid hown7; have hsz7 := f7.size; have HLT7 := Lib.hid hown7.lt; obtain ⟨b7, k7, rfl⟩ := owns_sh hown7; have t7 := f7.blk bX (by simp [Nil]); have d71 := t7.cell 1; have d72 := t7.cell 2; have d73 := t7.cell 3; simp at d71 d72 d73; have l7 := t7.lt; clear hown7 hgrow7 hat7 t7)
    | (at_builtin; refine wpList_append_src rfl (.tmp 16) (.tmp 18) 30 rfl W0.heap.size 3 i0 (.int .i64 0) 1 8 Try.underlying30 hi hz0 hz1 hz2 rfl (by decide) _ _ _ rfl HOWN7.out x3 n3 c3 (B.map natV) rfl (S3.out _ (by (repeat (first | (with_reducible exact Fr.refl _ _) | (with_reducible assumption) | (with_reducible exact Fr.of_nil (by assumption)) | (with_reducible refine Fr.drew ?_) | (with_reducible refine Fr.drewN ?_ _) | (with_reducible refine Fr.alloc ?_ _) | (with_reducible refine Fr.set ?_ _ _ (by first | (intros; omega) | (simp; done) | (simp; omega))) | (with_reducible refine Fr.via ?_ (by assumption)) | (with_reducible refine Fr.comp ?_ (by assumption)))))) (natV_one _) (by unfold maxLen; omega) (by omega) (by first | omega | (simp <;> omega)) ?_; intro v8 w8 hown8 hgrow8 hat8; have f8 : Fr Nil W0 w8 := Fr.grown f7 hgrow8 (fun k q hk => by have := HLT7.out k q; omega); have HOWN8 := Lib.hid hown8; have hsz8 := f8.size; have HLT8 := Lib.hid hown8.lt; obtain ⟨b8, k8, rfl⟩ := owns_sh hown8; have t8 := f8.blk bX (by simp [Nil]); have d81 := t8.cell 1; have d82 := t8.cell 2; have d83 := t8.cell 3; simp at d81 d82 d83; have l8 := t8.lt; clear hown8 hgrow8 hat8 t8))
  go_ret
  refine ⟨_, rfl, ?_, by (repeat (first | (with_reducible exact Fr.refl _ _) | (with_reducible assumption) | (with_reducible exact Fr.of_nil (by assumption)) | (with_reducible refine Fr.drew ?_) | (with_reducible refine Fr.drewN ?_ _) | (with_reducible refine Fr.alloc ?_ _) | (with_reducible refine Fr.set ?_ _ _ (by first | (intros; omega) | (simp; done) | (simp; omega))) | (with_reducible refine Fr.via ?_ (by assumption)) | (with_reducible refine Fr.comp ?_ (by assumption))))⟩
  have hh := HOWN8.out
  obtain ⟨p0, p1, p2, p3⟩ := HN.out
  have el : (W ++ (F ++ (G ++ B))).length = n0 + n1 + n2 + n3 := by simp; omega
  unfold RowN
  rw [el]
  refine owns_base ?_ hsz
  simpa using hh
end Go.Proofs.Ytlpdlhmdhlcdlaa
