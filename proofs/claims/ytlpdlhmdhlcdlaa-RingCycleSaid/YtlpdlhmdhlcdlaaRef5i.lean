/-
  The document's ring (layer 5): Do, Begin and End. Conditions: short rows, small cells.
-/
import Derived.Test.YtlpdlhmdhlcdlaaRef5h
namespace Go.Proofs.Ytlpdlhmdhlcdlaa
set_option linter.unusedSimpArgs false
set_option linter.unusedVariables false
open Go.RowKit Go.Shelf

set_option maxRecDepth 100000 in
theorem ddo_beginNo {X : Nat → Prop} (sb m : Nat) (W F G B : List Nat) (n : Int) (w : World) (h : RefR w X sb m ⟨W, F, G, B⟩) (hfg : F ≠ [] ∨ G ≠ []) (hlF : F.length ≤ 100000) (hlG : G.length ≤ 100000) :
    Calls Try.prog 20 #[.pointer (some ⟨sb, 0, none⟩), .agg #[.int .i64 5, .int .i64 n]] w fun e w' => e = .returned (.agg #[.int .i64 0, .bool false, .int .i64 18]) ∧ RefR w' X sb m ⟨W, F, G, B⟩ ∧ Fr (fun x => x = sb) w w' := by
  have H := Lib.hid h
  obtain ⟨v0, v1, v2, v3, hb, h0, h1, h2, h3⟩ := h.blk
  have lt := hb.lt
  have c1 := hb.cell 1
  have c2 := hb.cell 2
  simp at c1 c2
  obtain ⟨x1, k1, rfl, _⟩ := h1.fit
  obtain ⟨x2, k2, rfl, _⟩ := h2.fit
  simp only at c1 c2
  obtain ⟨n1, e1⟩ : ∃ n, F.length = n := ⟨_, rfl⟩
  obtain ⟨n2, e2⟩ : ∃ n, G.length = n := ⟨_, rfl⟩
  rw [e1] at c1 hlF
  rw [e2] at c2 hlG
  have hs : 0 < n1 + n2 := by
    rcases hfg with q | q
    · have := List.length_pos_iff.2 q; omega
    · have := List.length_pos_iff.2 q; omega
  have a1 : IntKind.i64.wrap ((n1 : Int) + (n2 : Int)) = (n1 : Int) + (n2 : Int) := by rw [IntKind.wrap_i64]; omega
  have a2 : (0 : Int) < (n1 : Int) + (n2 : Int) := by omega
  clear hb h0 h1 h2 h3 h e1 e2 hfg
  go_enter Try.func20, Try.ntmps20
  go_wp2
  go_quiet (fail)
  go_wp2
  refine bodyPost_ret (v := .agg #[.int .i64 0, .bool false, .int .i64 18]) (by simp [results, Try.results20, go_sem]) rfl ⟨rfl, H.out.fr (by (repeat (first | (with_reducible exact Fr.refl _ _) | (with_reducible assumption) | (with_reducible exact Fr.of_nil (by assumption)) | (with_reducible refine Fr.drew ?_) | (with_reducible refine Fr.drewN ?_ _) | (with_reducible refine Fr.alloc ?_ _) | (with_reducible refine Fr.set ?_ _ _ (by first | (intros; omega) | (simp; done) | (simp; omega))) | (with_reducible refine Fr.via ?_ (by assumption)) | (with_reducible refine Fr.comp ?_ (by assumption))))), by (repeat (first | (with_reducible exact Fr.refl _ _) | (with_reducible assumption) | (with_reducible exact Fr.of_nil (by assumption)) | (with_reducible refine Fr.drew ?_) | (with_reducible refine Fr.drewN ?_ _) | (with_reducible refine Fr.alloc ?_ _) | (with_reducible refine Fr.set ?_ _ _ (by first | (intro _; exact rfl) | (intro _; exact .inl rfl) | (intro _; exact .inr rfl) | (intro q; exact absurd q (Nat.lt_irrefl _)) | (intro q; simp at q; omega))) | (with_reducible refine Fr.via ?_ (by assumption)) | (with_reducible refine Fr.comp ?_ (by assumption))))⟩
set_option maxRecDepth 100000 in
theorem ddo_endNo {X : Nat → Prop} (sb m : Nat) (W F G B : List Nat) (n : Int) (w : World) (h : RefR w X sb m ⟨W, F, G, B⟩) (hfg : G ≠ []) (hlG : G.length ≤ 100000) :
    Calls Try.prog 20 #[.pointer (some ⟨sb, 0, none⟩), .agg #[.int .i64 6, .int .i64 n]] w fun e w' => e = .returned (.agg #[.int .i64 0, .bool false, .int .i64 18]) ∧ RefR w' X sb m ⟨W, F, G, B⟩ ∧ Fr (fun x => x = sb) w w' := by
  have H := Lib.hid h
  obtain ⟨v0, v1, v2, v3, hb, h0, h1, h2, h3⟩ := h.blk
  have lt := hb.lt
  have c2 := hb.cell 2
  simp at c2
  obtain ⟨x2, k2, rfl, _⟩ := h2.fit
  simp only at c2
  obtain ⟨n2, e2⟩ : ∃ n, G.length = n := ⟨_, rfl⟩
  rw [e2] at c2 hlG
  have hs : 0 < n2 := by have := List.length_pos_iff.2 hfg; omega
  have a2 : (0 : Int) < (n2 : Int) := by omega
  clear hb h0 h1 h2 h3 h e2 hfg
  go_enter Try.func20, Try.ntmps20
  go_wp2
  refine bodyPost_ret (v := .agg #[.int .i64 0, .bool false, .int .i64 18]) (by simp [results, Try.results20, go_sem]) rfl ⟨rfl, H.out.fr (by (repeat (first | (with_reducible exact Fr.refl _ _) | (with_reducible assumption) | (with_reducible exact Fr.of_nil (by assumption)) | (with_reducible refine Fr.drew ?_) | (with_reducible refine Fr.drewN ?_ _) | (with_reducible refine Fr.alloc ?_ _) | (with_reducible refine Fr.set ?_ _ _ (by first | (intros; omega) | (simp; done) | (simp; omega))) | (with_reducible refine Fr.via ?_ (by assumption)) | (with_reducible refine Fr.comp ?_ (by assumption))))), by (repeat (first | (with_reducible exact Fr.refl _ _) | (with_reducible assumption) | (with_reducible exact Fr.of_nil (by assumption)) | (with_reducible refine Fr.drew ?_) | (with_reducible refine Fr.drewN ?_ _) | (with_reducible refine Fr.alloc ?_ _) | (with_reducible refine Fr.set ?_ _ _ (by first | (intro _; exact rfl) | (intro _; exact .inl rfl) | (intro _; exact .inr rfl) | (intro q; exact absurd q (Nat.lt_irrefl _)) | (intro q; simp at q; omega))) | (with_reducible refine Fr.via ?_ (by assumption)) | (with_reducible refine Fr.comp ?_ (by assumption))))⟩
set_option maxRecDepth 100000 in
theorem ddo_takeNo {X : Nat → Prop} (sb m : Nat) (F G B : List Nat) (k n : Int) (w : World) (h : RefR w X sb m ⟨[], F, G, B⟩) (hk : k < 0 ∨ k = 1 ∨ 6 < k) :
    Calls Try.prog 20 #[.pointer (some ⟨sb, 0, none⟩), .agg #[.int .i64 k, .int .i64 n]] w fun e w' => e = .returned (.agg #[.int .i64 0, .bool false, .int .i64 2]) ∧ RefR w' X sb m ⟨[], F, G, B⟩ ∧ Fr (fun x => x = sb) w w' := by
  have H := Lib.hid h
  obtain ⟨v0, v1, v2, v3, hb, h0, h1, h2, h3⟩ := h.blk
  have lt := hb.lt
  have c0 := hb.cell 0
  simp at c0
  obtain ⟨x0, k0, rfl, _⟩ := h0.fit
  simp only [List.length_nil] at c0
  have b0 : (k == 0) = false := by simp; omega
  have b2 : (k == 2) = false := by simp; omega
  have b3 : (k == 3) = false := by simp; omega
  have b4 : (k == 4) = false := by simp; omega
  have b5 : (k == 5) = false := by simp; omega
  have b6 : (k == 6) = false := by simp; omega
  clear hb h0 h1 h2 h3 h hk
  go_enter Try.func20, Try.ntmps20
  go_wp2
  refine bodyPost_ret (v := .agg #[.int .i64 0, .bool false, .int .i64 2]) (by simp [results, Try.results20, go_sem]) rfl ⟨rfl, H.out.fr (by (repeat (first | (with_reducible exact Fr.refl _ _) | (with_reducible assumption) | (with_reducible exact Fr.of_nil (by assumption)) | (with_reducible refine Fr.drew ?_) | (with_reducible refine Fr.drewN ?_ _) | (with_reducible refine Fr.alloc ?_ _) | (with_reducible refine Fr.set ?_ _ _ (by first | (intros; omega) | (simp; done) | (simp; omega))) | (with_reducible refine Fr.via ?_ (by assumption)) | (with_reducible refine Fr.comp ?_ (by assumption))))), by (repeat (first | (with_reducible exact Fr.refl _ _) | (with_reducible assumption) | (with_reducible exact Fr.of_nil (by assumption)) | (with_reducible refine Fr.drew ?_) | (with_reducible refine Fr.drewN ?_ _) | (with_reducible refine Fr.alloc ?_ _) | (with_reducible refine Fr.set ?_ _ _ (by first | (intro _; exact rfl) | (intro _; exact .inl rfl) | (intro _; exact .inr rfl) | (intro q; exact absurd q (Nat.lt_irrefl _)) | (intro q; simp at q; omega))) | (with_reducible refine Fr.via ?_ (by assumption)) | (with_reducible refine Fr.comp ?_ (by assumption))))⟩
set_option maxRecDepth 100000 in
theorem ddo_begin {X : Nat → Prop} (sb m : Nat) (W B : List Nat) (n : Int) (w : World) (h : RefR w X sb m ⟨W, [], [], B⟩) :
    Calls Try.prog 20 #[.pointer (some ⟨sb, 0, none⟩), .agg #[.int .i64 5, .int .i64 n]] w fun e w' => e = .returned (.agg #[.int .i64 0, .bool false, .int .i64 0]) ∧ RefR w' X sb m ⟨W, B, [], []⟩ ∧ Fr (fun x => x = sb) w w' := by
  have HS := Lib.hid (And.intro h.at_ h.is)
  obtain ⟨v0, v1, v2, v3, hb, h0, h1, h2, h3⟩ := h.blk
  have lt := hb.lt
  obtain ⟨x0, k0, rfl, _⟩ := h0.fit
  obtain ⟨x1, k1, rfl, _⟩ := h1.fit
  obtain ⟨x2, k2, rfl, _⟩ := h2.fit
  obtain ⟨x3, k3, rfl, _⟩ := h3.fit
  simp only [List.length_nil] at hb h0 h1 h2 h3
  obtain ⟨n0, e0⟩ : ∃ n, W.length = n := ⟨_, rfl⟩
  obtain ⟨n3, e3⟩ : ∃ n, B.length = n := ⟨_, rfl⟩
  rw [e0] at hb h0
  rw [e3] at hb h3
  have c1 := hb.cell 1
  have c2 := hb.cell 2
  have c3 := hb.cell 3
  simp at c1 c2 c3
  have z1 := hb.free 1
  have z3 := hb.free 3
  have ne1 : sb ≠ w.heap.size := by omega
  have ne2 : sb ≠ w.heap.size + 1 := by omega
  have ne3 : w.heap.size + 1 ≠ sb := by omega
  have HB := Lib.hid hb
  have HR := Lib.hid (And.intro h0 (And.intro h2 h3))
  clear hb h0 h1 h2 h3 h e0 e3
  go_enter Try.func20, Try.ntmps20
  go_wp2
  go_quiet (fail)
  go_wp2
  refine bodyPost_ret (v := .agg #[.int .i64 0, .bool false, .int .i64 0]) (by simp [results, Try.results20, go_sem, ne1, ne2, ne3]) rfl ⟨rfl, ?_, by (repeat (first | (with_reducible exact Fr.refl _ _) | (with_reducible assumption) | (with_reducible exact Fr.of_nil (by assumption)) | (with_reducible refine Fr.drew ?_) | (with_reducible refine Fr.drewN ?_ _) | (with_reducible refine Fr.alloc ?_ _) | (with_reducible refine Fr.set ?_ _ _ (by first | (intro _; exact rfl) | (intro _; exact .inl rfl) | (intro _; exact .inr rfl) | (intro q; exact absurd q (Nat.lt_irrefl _)) | (intro q; simp at q; omega))) | (with_reducible refine Fr.via ?_ (by assumption)) | (with_reducible refine Fr.comp ?_ (by assumption))))⟩
  have fin : ∀ V, Fr (fun x => x = sb) w V → Blk V sb #[.slice x0 n0 k0, .slice x3 n3 k3, .slice x2 0 k2, .slice none 0 0, .int .i64 (m : Int)] 58 → RefR V X sb m ⟨W, B, [], []⟩ := fun V fV hB =>
    ⟨HS.out.1, _, _, _, _, hB, HR.out.1.frS fV HS.out.2, HR.out.2.2.frS fV HS.out.2, HR.out.2.1.frS fV HS.out.2, RowB.nil _ _⟩
  refine fin _ ?_ ?_
  · (repeat (first | (with_reducible exact Fr.refl _ _) | (with_reducible assumption) | (with_reducible exact Fr.of_nil (by assumption)) | (with_reducible refine Fr.drew ?_) | (with_reducible refine Fr.drewN ?_ _) | (with_reducible refine Fr.alloc ?_ _) | (with_reducible refine Fr.set ?_ _ _ (by first | (intro _; exact rfl) | (intro _; exact .inl rfl) | (intro _; exact .inr rfl) | (intro q; exact absurd q (Nat.lt_irrefl _)) | (intro q; simp at q; omega))) | (with_reducible refine Fr.via ?_ (by assumption)) | (with_reducible refine Fr.comp ?_ (by assumption))))
  · (unfold Blk; simp (disch := first | omega | (simp; done) | (simp; omega)) only [hp_drew, hp_drewN, hp_alloc, hp_other, hp_same, hp_new, upd_cells, Option.map_some, (HB.out).eq])
    simp
set_option maxRecDepth 100000 in
set_option maxHeartbeats 4000000 in
theorem ddo_endOk {X : Nat → Prop} (sb m : Nat) (W F B : List Nat) (n : Int) (w : World) (h : RefR w X sb m ⟨W, F, [], B⟩) (hlW : W.length ≤ 100000) (hlF : F.length ≤ 100000) (hX : ∀ b, X b → b < w.heap.size) :
    Calls Try.prog 20 #[.pointer (some ⟨sb, 0, none⟩), .agg #[.int .i64 6, .int .i64 n]] w fun e w' => e = .returned (.agg #[.int .i64 0, .bool false, .int .i64 0]) ∧ RefR w' X sb m ⟨W ++ F, [], [], B⟩ ∧ Fr (fun x => x = sb) w w' := by
  have HS := Lib.hid (And.intro h.at_ h.is)
  have HX := Lib.hid hX
  obtain ⟨v0, v1, v2, v3, hb, h0, h1, h2, h3⟩ := h.blk
  have lt := hb.lt
  obtain ⟨x0, k0, rfl, _⟩ := h0.fit
  obtain ⟨x1, k1, rfl, _⟩ := h1.fit
  obtain ⟨x2, k2, rfl, _⟩ := h2.fit
  simp only [List.length_nil] at hb h0 h1 h2 h3
  have S0 := Lib.hid h0.src.2
  have S1 := Lib.hid h1.src.2
  obtain ⟨n0, e0⟩ : ∃ n, W.length = n := ⟨_, rfl⟩
  obtain ⟨n1, e1⟩ : ∃ n, F.length = n := ⟨_, rfl⟩
  rw [e0] at hb h0 S0 hlW
  rw [e1] at hb h1 S1 hlF
  have HB := Lib.hid hb
  have HR := Lib.hid (And.intro h2 (And.intro h3 (And.intro e0 e1)))
  obtain ⟨i0, hi, hz0, hz1, hz2⟩ := info_parts infoI
  have c2 := hb.cell 2
  simp at c2
  clear hb h0 h1 h2 h3 h e0 e1 hX
  go_enter Try.func20, Try.ntmps20
  go_upto_region 17 with fail
  obtain ⟨W0, hW0⟩ : ∃ V, V = (w.alloc (.cells #[.int .i64 6, .int .i64 n] 45)).alloc (.cells #[.int .i64 0, .bool false, .int .i64 0] 47) := ⟨_, rfl⟩
  rw [← hW0]
  have f0 : Fr Nil w W0 := by rw [hW0]; (repeat (first | (with_reducible exact Fr.refl _ _) | (with_reducible assumption) | (with_reducible exact Fr.of_nil (by assumption)) | (with_reducible refine Fr.drew ?_) | (with_reducible refine Fr.drewN ?_ _) | (with_reducible refine Fr.alloc ?_ _) | (with_reducible refine Fr.set ?_ _ _ (by first | (intros; omega) | (simp; done) | (simp; omega))) | (with_reducible refine Fr.via ?_ (by assumption)) | (with_reducible refine Fr.comp ?_ (by assumption))))
  have bT : Blk W0 (w.heap.size + 1) #[.int .i64 0, .bool false, .int .i64 0] 47 := by rw [hW0]; (unfold Blk; simp (disch := first | omega | (simp; done) | (simp; omega)) only [hp_drew, hp_drewN, hp_alloc, hp_other, hp_same, hp_new, upd_cells, Option.map_some])
  clear hW0 c2
  have bS := f0.blk HB.out (fun q => q)
  have hsz : w.heap.size ≤ W0.heap.size := f0.size
  have tl : w.heap.size + 1 < W0.heap.size := bT.lt
  have y0 := bS.cell 0
  have y1 := bS.cell 1
  simp at y0 y1
  have yl := bS.lt
  have HE := Lib.hid (owns_frS (owns_empty W0 W0.heap.size 1 3 (Nat.le_refl _)) (show Fr Nil _ ((W0.alloc (.cells #[] 3)).drew) from by (repeat (first | (with_reducible exact Fr.refl _ _) | (with_reducible assumption) | (with_reducible exact Fr.of_nil (by assumption)) | (with_reducible refine Fr.drew ?_) | (with_reducible refine Fr.drewN ?_ _) | (with_reducible refine Fr.alloc ?_ _) | (with_reducible refine Fr.set ?_ _ _ (by first | (intros; omega) | (simp; done) | (simp; omega))) | (with_reducible refine Fr.via ?_ (by assumption)) | (with_reducible refine Fr.comp ?_ (by assumption))))) (fun _ _ q => q))
  have HBB := Lib.hid (And.intro bS bT)
  have ne1 : sb ≠ w.heap.size + 1 := by omega
  have ne2 : w.heap.size + 1 ≠ sb := by omega
  clear bS bT
  go_region_law (first
    | (refine step_append_src rfl (.tmp 63) (.tmp 68) 30 rfl W0.heap.size 3 i0 (.int .i64 0) 1 8 Try.underlying30 hi hz0 hz1 hz2 rfl (by decide) (.slice (some ⟨W0.heap.size, 0, none⟩) 0 0) 0 [] (by simp [Act.eval, Act.put]) HE.out x0 n0 k0 (W.map natV) (by simp [Act.eval, Act.put]) (S0.out _ (by (repeat (first | (with_reducible exact Fr.refl _ _) | (with_reducible assumption) | (with_reducible exact Fr.of_nil (by assumption)) | (with_reducible refine Fr.drew ?_) | (with_reducible refine Fr.drewN ?_ _) | (with_reducible refine Fr.alloc ?_ _) | (with_reducible refine Fr.set ?_ _ _ (by first | (intros; omega) | (simp; done) | (simp; omega))) | (with_reducible refine Fr.via ?_ (by assumption)) | (with_reducible refine Fr.comp ?_ (by assumption)))))) (natV_one _) (by unfold maxLen; omega) (by omega) (by first | omega | (simp <;> omega)) ?_; intro v4 w4 hown4 hgrow4 hat4; simp only [Nat.zero_add, List.nil_append] at hown4; have f4 : Fr Nil W0 w4 := Fr.grown (by (repeat (first | (with_reducible exact Fr.refl _ _) | (with_reducible assumption) | (with_reducible exact Fr.of_nil (by assumption)) | (with_reducible refine Fr.drew ?_) | (with_reducible refine Fr.drewN ?_ _) | (with_reducible refine Fr.alloc ?_ _) | (with_reducible refine Fr.set ?_ _ _ (by first | (intros; omega) | (simp; done) | (simp; omega))) | (with_reducible refine Fr.via ?_ (by assumption)) | (with_reducible refine Fr.comp ?_ (by assumption))))) hgrow4 (fun k q hk => by simp [Value.ownBlock] at q; omega); have HOWN4 := Lib.hid hown4; have hsz4 := f4.size; have HLT4 := Lib.hid hown4.lt; obtain ⟨b4, k4, rfl⟩ := owns_sh hown4; clear hown4 hgrow4 hat4; have t4 := f4.blk HBB.out.1 (by simp [Nil]); have u1 := t4.cell 1; have ul := t4.lt; simp at u1; clear t4)
    | (refine step_append_src rfl (.tmp 69) (.tmp 74) 30 rfl W0.heap.size 3 i0 (.int .i64 0) 1 8 Try.underlying30 hi hz0 hz1 hz2 rfl (by decide) (.slice b4 n0 k4) n0 _ (by simp [Act.eval, Act.put]) HOWN4.out x1 n1 k1 (F.map natV) (by simp [Act.eval, Act.put]) (S1.out _ (by (repeat (first | (with_reducible exact Fr.refl _ _) | (with_reducible assumption) | (with_reducible exact Fr.of_nil (by assumption)) | (with_reducible refine Fr.drew ?_) | (with_reducible refine Fr.drewN ?_ _) | (with_reducible refine Fr.alloc ?_ _) | (with_reducible refine Fr.set ?_ _ _ (by first | (intros; omega) | (simp; done) | (simp; omega))) | (with_reducible refine Fr.via ?_ (by assumption)) | (with_reducible refine Fr.comp ?_ (by assumption)))))) (natV_one _) (by unfold maxLen; omega) (by omega) (by first | omega | (simp <;> omega)) ?_; intro v5 w5 hown5 hgrow5 hat5; have f5 : Fr Nil W0 w5 := Fr.grown f4 hgrow5 (fun k q hk => by have := HLT4.out k q; omega); have HOWN5 := Lib.hid hown5; have hsz5 := f5.size; obtain ⟨b5, k5, rfl⟩ := owns_sh hown5; clear hown5 hgrow5 hat5; have tS := f5.blk HBB.out.1 (by simp [Nil]); have tT := f5.blk HBB.out.2 (by simp [Nil]); have z0 := tS.cell 0; have z1 := tS.cell 1; have z0f := tS.free 0; have z1f := tS.free 1; have zl := tS.lt; have t0 := tT.cell 0; have t1 := tT.cell 1; have t2 := tT.cell 2; have t3 := tT.free 0; have t4 := tT.free 1; have t5 := tT.free 2; have t6 := tT.lt; simp at z0 z1 t0 t1 t2))
  all_goals
    go_wp2
    refine bodyPost_ret (v := .agg #[.int .i64 0, .bool false, .int .i64 0]) (by simp [results, Try.results20, go_sem, t0, t1, t2, ne1, ne2]) rfl ⟨rfl, ?_, by (repeat (first | (with_reducible exact Fr.refl _ _) | (with_reducible assumption) | (with_reducible exact Fr.of_nil (by assumption)) | (with_reducible refine Fr.drew ?_) | (with_reducible refine Fr.drewN ?_ _) | (with_reducible refine Fr.alloc ?_ _) | (with_reducible refine Fr.set ?_ _ _ (by first | (intro _; exact rfl) | (intro _; exact .inl rfl) | (intro _; exact .inr rfl) | (intro q; exact absurd q (Nat.lt_irrefl _)) | (intro q; simp at q; omega))) | (with_reducible refine Fr.via ?_ (by assumption)) | (with_reducible refine Fr.comp ?_ (by assumption))))⟩
    have hN : RowN W0.heap.size w5 (.slice b5 (n0 + n1) k5) (W ++ F) := by
      unfold RowN
      rw [show (W ++ F).length = n0 + n1 by have := HR.out.2.2; simp; omega]
      have hh := HOWN5.out
      rw [← List.map_append] at hh
      exact hh
    have fin : ∀ V, Fr (fun x => x = sb ∨ x = w.heap.size + 1) w5 V → Fr (fun x => x = sb) w V → Blk V sb #[.slice b5 (n0 + n1) k5, .slice none 0 0, .slice x2 0 k2, v3, .int .i64 (m : Int)] 58 → RefR V X sb m ⟨W ++ F, [], [], B⟩ := fun V fV fwV hB =>
      ⟨HS.out.1, _, _, _, _, hB, hN.toBS (sb := sb) (T := w.heap.size + 1) fV (by omega) (by omega) (fun b q => by have := HX.out b q; omega), RowB.nil _ _, HR.out.1.frS fwV HS.out.2, HR.out.2.1.frS fwV HS.out.2⟩
    refine fin _ ?_ ?_ ?_
    · (repeat (first | (with_reducible exact Fr.refl _ _) | (with_reducible assumption) | (with_reducible exact Fr.of_nil (by assumption)) | (with_reducible refine Fr.drew ?_) | (with_reducible refine Fr.drewN ?_ _) | (with_reducible refine Fr.alloc ?_ _) | (with_reducible refine Fr.set ?_ _ _ (by first | (intro _; exact rfl) | (intro _; exact .inl rfl) | (intro _; exact .inr rfl) | (intro q; exact absurd q (Nat.lt_irrefl _)) | (intro q; simp at q; omega))) | (with_reducible refine Fr.via ?_ (by assumption)) | (with_reducible refine Fr.comp ?_ (by assumption))))
    · (repeat (first | (with_reducible exact Fr.refl _ _) | (with_reducible assumption) | (with_reducible exact Fr.of_nil (by assumption)) | (with_reducible refine Fr.drew ?_) | (with_reducible refine Fr.drewN ?_ _) | (with_reducible refine Fr.alloc ?_ _) | (with_reducible refine Fr.set ?_ _ _ (by first | (intro _; exact rfl) | (intro _; exact .inl rfl) | (intro _; exact .inr rfl) | (intro q; exact absurd q (Nat.lt_irrefl _)) | (intro q; simp at q; omega))) | (with_reducible refine Fr.via ?_ (by assumption)) | (with_reducible refine Fr.comp ?_ (by assumption))))
    · (unfold Blk; simp (disch := first | omega | (simp; done) | (simp; omega)) only [hp_drew, hp_drewN, hp_alloc, hp_other, hp_same, hp_new, upd_cells, Option.map_some, (tS).eq])
      simp
end Go.Proofs.Ytlpdlhmdhlcdlaa
