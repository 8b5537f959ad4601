/-
  The document's ring (layer 5): grey, Done. Conditions: short rows, small cells.
-/
import Derived.Test.YtlpdlhmdhlcdlaaRef5f
namespace Go.Proofs.Ytlpdlhmdhlcdlaa
set_option linter.unusedSimpArgs false
set_option linter.unusedVariables false
open Go.RowKit Go.Shelf

set_option maxRecDepth 100000 in
set_option maxHeartbeats 4000000 in
theorem ddone_some {X : Nat → Prop} (sb m c : Nat) (W F G B G0 : List Nat) (n : Int) (w : World) (h : RefR w X sb m ⟨W, F, G, B⟩) (hG : G = G0 ++ [c]) (hlG : G.length ≤ 100000) (hlB : B.length ≤ 100000) (hX : ∀ b, X b → b < w.heap.size) :
    Calls Try.prog 43 #[.pointer (some ⟨sb, 0, none⟩), .agg #[.int .i64 4, .int .i64 n]] w fun e w' => e = .returned (.agg #[.int .i64 0, .bool false, .int .i64 0]) ∧ RefR w' X sb m ⟨W, F, G0, c :: B⟩ ∧ Fr (fun x => x = sb) w w' := by
  have HSS := Lib.hid (And.intro h.at_ h.is)
  have HX := Lib.hid hX
  clear hX
  obtain ⟨v0, v1, v2, v3, hb, h0, h1, h2, h3⟩ := h.blk
  have lt := hb.lt
  simp only at h0 h1 h2 h3
  have hlen : G.length = G0.length + 1 := by rw [hG]; simp
  have hform := h2.form (by omega)
  obtain ⟨x3, k3, rfl, _⟩ := h3.fit
  have HW1 := Lib.hid (And.intro h0 (And.intro h1 (And.intro h2 h3)))
  have HS3 := Lib.hid h3.src.2
  obtain ⟨g, cap, rfl, hcap, hsg, hgl, hc⟩ := hform
  have p0 := hc G0.length (by omega)
  have e : G[G0.length]'(by omega) = c := by simp [hG]
  rw [e, natV] at p0
  obtain ⟨k, hk⟩ : ∃ k, G0.length = k := ⟨_, rfl⟩
  obtain ⟨n3, hn3⟩ : ∃ n, B.length = n := ⟨_, rfl⟩
  rw [hk] at hlen p0
  rw [hlen] at hb hlG HW1
  rw [hn3] at hb hlB HW1 HS3
  have a0 : (((k + 1 : Nat) : Int) == 0) = false := by simp; omega
  have a1 : ((k + 1 : Nat) : Int) - 1 = (k : Int) := by omega
  have a2 : IntKind.i64.wrap (((k + 1 : Nat) : Int) - 1) = (k : Int) := by rw [IntKind.wrap_i64]; omega
  have a5 : IntKind.i64.wrap (k : Int) = (k : Int) := by rw [IntKind.wrap_i64]; omega
  have a6 : IntKind.i64.wrap ((k : Int) + 1 - 1) = (k : Int) := by rw [IntKind.wrap_i64]; omega
  have a3 : (0 : Int) ≤ (k : Int) := by omega
  have a4 : (k : Int) < (k : Int) + 1 := by omega
  have hdrop : G.take k ++ G.drop (k + 1) = G0 := by rw [hG, ← hk]; simp
  have HB := Lib.hid hb
  have HG := Lib.hid (And.intro hG (And.intro hlen (And.intro hn3 (And.intro hdrop hk))))
  have c2 := hb.cell 2
  simp at c2
  obtain ⟨i0, hi, hz0, hz1, hz2⟩ := info_parts infoI
  clear hb h0 h1 h2 h3 h hc e hG hlen hn3 hdrop hk
  go_enter Try.func43, Try.ntmps43
  go_upto_region 20 with fail
  obtain ⟨W0, hW0⟩ : ∃ V, V = (w.alloc (.cells #[.int .i64 4, .int .i64 n] 45)).alloc (.cells #[.int .i64 0, .bool false, .int .i64 0] 47) := ⟨_, rfl⟩
  rw [← hW0]
  have f0 : Fr Nil w W0 := by rw [hW0]; (repeat (first | (with_reducible exact Fr.refl _ _) | (with_reducible assumption) | (with_reducible exact Fr.of_nil (by assumption)) | (with_reducible refine Fr.drew ?_) | (with_reducible refine Fr.drewN ?_ _) | (with_reducible refine Fr.alloc ?_ _) | (with_reducible refine Fr.set ?_ _ _ (by first | (intros; omega) | (simp; done) | (simp; omega))) | (with_reducible refine Fr.via ?_ (by assumption)) | (with_reducible refine Fr.comp ?_ (by assumption))))
  have bT : Blk W0 (w.heap.size + 1) #[.int .i64 0, .bool false, .int .i64 0] 47 := by rw [hW0]; (unfold Blk; simp (disch := first | omega | (simp; done) | (simp; omega)) only [hp_drew, hp_drewN, hp_alloc, hp_other, hp_same, hp_new, upd_cells, Option.map_some])
  clear hW0
  have bS := f0.blk HB.out (fun q => q)
  have hsz : w.heap.size ≤ W0.heap.size := f0.size
  have tl : w.heap.size + 1 < W0.heap.size := bT.lt
  have y2 := bS.cell 2
  have y3 := bS.cell 3
  simp at y2 y3
  have yl := bS.lt
  have y0 := f0.cell p0 (by simp [Nil])
  have gl : g < W0.heap.size := World.block_lt_of_cell? W0 _ y0
  have HE := Lib.hid (owns_frS (World.ownsRow_lit (e := 3) (size := 1) W0 #[.int .i64 (c : Int)] 1 (Nat.le_refl _) (by unfold maxLen; omega) rfl) (show Fr Nil _ ((W0.alloc (.cells #[.int .i64 (c : Int)] 3)).drew) from by (repeat (first | (with_reducible exact Fr.refl _ _) | (with_reducible assumption) | (with_reducible exact Fr.of_nil (by assumption)) | (with_reducible refine Fr.drew ?_) | (with_reducible refine Fr.drewN ?_ _) | (with_reducible refine Fr.alloc ?_ _) | (with_reducible refine Fr.set ?_ _ _ (by first | (intros; omega) | (simp; done) | (simp; omega))) | (with_reducible refine Fr.via ?_ (by assumption)) | (with_reducible refine Fr.comp ?_ (by assumption))))) (fun _ _ q => q))
  have HBB := Lib.hid (And.intro bS bT)
  have ne1 : sb ≠ w.heap.size + 1 := by omega
  have ne2 : w.heap.size + 1 ≠ sb := by omega
  clear bS bT
  go_region_law (first
    | (refine step_append_src rfl (.tmp 99) (.tmp 104) 30 rfl W0.heap.size 3 i0 (.int .i64 0) 1 8 Try.underlying30 hi hz0 hz1 hz2 rfl (by decide) (.slice (some ⟨W0.heap.size, 0, none⟩) 1 1) 1 [.int .i64 (c : Int)] (by simp [Act.eval, Act.put]) HE.out x3 n3 k3 (B.map natV) (by simp [Act.eval, Act.put]) (HS3.out _ (by (repeat (first | (with_reducible exact Fr.refl _ _) | (with_reducible assumption) | (with_reducible exact Fr.of_nil (by assumption)) | (with_reducible refine Fr.drew ?_) | (with_reducible refine Fr.drewN ?_ _) | (with_reducible refine Fr.alloc ?_ _) | (with_reducible refine Fr.set ?_ _ _ (by first | (intros; omega) | (simp; done) | (simp; omega))) | (with_reducible refine Fr.via ?_ (by assumption)) | (with_reducible refine Fr.comp ?_ (by assumption)))))) (natV_one _) (by unfold maxLen; omega) (by omega) (by first | omega | (simp <;> omega)) ?_; intro v5 w5 hown5 hgrow5 hat5; have f5 : Fr Nil W0 w5 := Fr.grown (by (repeat (first | (with_reducible exact Fr.refl _ _) | (with_reducible assumption) | (with_reducible exact Fr.of_nil (by assumption)) | (with_reducible refine Fr.drew ?_) | (with_reducible refine Fr.drewN ?_ _) | (with_reducible refine Fr.alloc ?_ _) | (with_reducible refine Fr.set ?_ _ _ (by first | (intros; omega) | (simp; done) | (simp; omega))) | (with_reducible refine Fr.via ?_ (by assumption)) | (with_reducible refine Fr.comp ?_ (by assumption))))) hgrow5 (fun k q hk => by simp [Value.ownBlock] at q; omega); have HOWN5 := Lib.hid hown5; have hsz5 := f5.size; obtain ⟨b5, k5, rfl⟩ := owns_sh hown5; clear hown5 hgrow5 hat5; have tS := f5.blk HBB.out.1 (by simp [Nil]); have z3 := tS.cell 3; have z3f := tS.free 3; have zl := tS.lt; simp at z3))
  all_goals
    obtain ⟨Y, hY⟩ : ∃ Y, w5.setCell ⟨sb, 3, none⟩ (.slice b5 (1 + n3) k5) = Y := ⟨_, rfl⟩
    rw [hY]
    have cS : Blk Y sb #[v0, v1, .slice (some ⟨g, 0, none⟩) (k + 1) cap, .slice b5 (1 + n3) k5, .int .i64 (m : Int)] 58 := by
      rw [← hY]
      (unfold Blk; simp (disch := first | omega | (simp; done) | (simp; omega)) only [hp_drew, hp_drewN, hp_alloc, hp_other, hp_same, hp_new, upd_cells, Option.map_some, (tS).eq])
      simp
    have cT : Blk Y (w.heap.size + 1) #[.int .i64 0, .bool false, .int .i64 0] 47 := by
      rw [← hY]
      have tT := f5.blk HBB.out.2 (by simp [Nil])
      (unfold Blk; simp (disch := first | omega | (simp; done) | (simp; omega)) only [hp_drew, hp_drewN, hp_alloc, hp_other, hp_same, hp_new, upd_cells, Option.map_some, (tT).eq])
    have f5Y : Fr (fun x => x = sb) w5 Y := by rw [← hY]; (repeat (first | (with_reducible exact Fr.refl _ _) | (with_reducible assumption) | (with_reducible exact Fr.of_nil (by assumption)) | (with_reducible refine Fr.drew ?_) | (with_reducible refine Fr.drewN ?_ _) | (with_reducible refine Fr.alloc ?_ _) | (with_reducible refine Fr.set ?_ _ _ (by first | (intro _; exact rfl) | (intro _; exact .inl rfl) | (intro _; exact .inr rfl) | (intro q; exact absurd q (Nat.lt_irrefl _)) | (intro q; simp at q; omega))) | (with_reducible refine Fr.via ?_ (by assumption)) | (with_reducible refine Fr.comp ?_ (by assumption))))
    have fwY : Fr (fun x => x = sb) w Y := (f0.comp f5).of_nil.comp f5Y
    clear hY z3 z3f zl tS y2 y3
    have szY := f5Y.size
    have y2 := cS.cell 2
    simp at y2
    have yl2 := cS.lt
    have HCS := Lib.hid (And.intro cS cT)
    have HWO := Lib.hid (without_any G _ k Y (HW1.out.2.2.1.frS fwY HSS.out.2) (by have := HG.out.2.1; omega) (by have := HG.out.2.1; omega))
    clear cS cT
    go_wp2_with fail
    refine HWO.out.mono ?_
    rintro e w6 ⟨v', rfl, hr, f6⟩
    rw [HG.out.2.2.2.1] at hr
    obtain ⟨z1, z2, rfl⟩ := owns_sh hr
    have HR6 := Lib.hid hr
    clear hr
    have dS := f6.blk HCS.out.1 (fun q => q)
    have dT := f6.blk HCS.out.2 (fun q => q)
    have q2 := dS.cell 2
    have q2f := dS.free 2
    have ql := dS.lt
    have t0 := dT.cell 0
    have t1 := dT.cell 1
    have t2 := dT.cell 2
    have t3 := dT.free 0
    have t4 := dT.free 1
    have t5 := dT.free 2
    have t6 := dT.lt
    simp at q2 t0 t1 t2
    go_wp2
    refine bodyPost_ret (v := .agg #[.int .i64 0, .bool false, .int .i64 0]) (by simp [results, Try.results43, go_sem, t0, t1, t2, ne1, ne2]) rfl ⟨rfl, ?_, ?_⟩
    · have hN : RowN W0.heap.size w5 (.slice b5 (1 + n3) k5) (c :: B) := by
        unfold RowN
        rw [show (c :: B).length = 1 + n3 by have := HG.out.2.2.1; simp; omega]
        exact HOWN5.out
      have fin : ∀ V, Fr (fun x => x = sb ∨ x = w.heap.size + 1) w6 V → Fr (fun x => x = sb) w V → Blk V sb #[v0, v1, .slice z1 G0.length z2, .slice b5 (1 + n3) k5, .int .i64 (m : Int)] 58 → RefR V X sb m ⟨W, F, G0, c :: B⟩ := fun V fV fwV hB =>
        ⟨HSS.out.1, _, _, _, _, hB, HW1.out.1.frS fwV HSS.out.2, HW1.out.2.1.frS fwV HSS.out.2, HR6.out.toBS (sb := sb) (T := w.heap.size + 1) fV (by omega) (by omega) (fun b q => by have := HX.out b q; omega), hN.toBS (sb := sb) (T := w.heap.size + 1) (((f5Y.mono (fun _ _ q => .inl q)).via f6).comp fV) (by omega) (by omega) (fun b q => by have := HX.out b q; omega)⟩
      refine fin _ ?_ ?_ ?_
      · (repeat (first | (with_reducible exact Fr.refl _ _) | (with_reducible assumption) | (with_reducible exact Fr.of_nil (by assumption)) | (with_reducible refine Fr.drew ?_) | (with_reducible refine Fr.drewN ?_ _) | (with_reducible refine Fr.alloc ?_ _) | (with_reducible refine Fr.set ?_ _ _ (by first | (intro _; exact rfl) | (intro _; exact .inl rfl) | (intro _; exact .inr rfl) | (intro q; exact absurd q (Nat.lt_irrefl _)) | (intro q; simp at q; omega))) | (with_reducible refine Fr.via ?_ (by assumption)) | (with_reducible refine Fr.comp ?_ (by assumption))))
      · (repeat (first | (with_reducible exact Fr.refl _ _) | (with_reducible assumption) | (with_reducible exact Fr.of_nil (by assumption)) | (with_reducible refine Fr.drew ?_) | (with_reducible refine Fr.drewN ?_ _) | (with_reducible refine Fr.alloc ?_ _) | (with_reducible refine Fr.set ?_ _ _ (by first | (intro _; exact rfl) | (intro _; exact .inl rfl) | (intro _; exact .inr rfl) | (intro q; exact absurd q (Nat.lt_irrefl _)) | (intro q; simp at q; omega))) | (with_reducible refine Fr.via ?_ (by assumption)) | (with_reducible refine Fr.comp ?_ (by assumption))))
      · (unfold Blk; simp (disch := first | omega | (simp; done) | (simp; omega)) only [hp_drew, hp_drewN, hp_alloc, hp_other, hp_same, hp_new, upd_cells, Option.map_some, (dS).eq])
        simp
    · (repeat (first | (with_reducible exact Fr.refl _ _) | (with_reducible assumption) | (with_reducible exact Fr.of_nil (by assumption)) | (with_reducible refine Fr.drew ?_) | (with_reducible refine Fr.drewN ?_ _) | (with_reducible refine Fr.alloc ?_ _) | (with_reducible refine Fr.set ?_ _ _ (by first | (intro _; exact rfl) | (intro _; exact .inl rfl) | (intro _; exact .inr rfl) | (intro q; exact absurd q (Nat.lt_irrefl _)) | (intro q; simp at q; omega))) | (with_reducible refine Fr.via ?_ (by assumption)) | (with_reducible refine Fr.comp ?_ (by assumption))))
end Go.Proofs.Ytlpdlhmdhlcdlaa
