/-
  The document's ring (layer 5): grey. Conditions: short rows, small cells.
-/
import Derived.Test.YtlpdlhmdhlcdlaaRef5e
import Derived.Deep.RegionLawGrows
namespace Go.Proofs.Ytlpdlhmdhlcdlaa
set_option linter.unusedSimpArgs false
set_option linter.unusedVariables false
open Go.RowKit Go.Shelf

set_option maxRecDepth 100000 in
theorem dshade_no {X : Nat → Prop} (sb m : Nat) (S : Seg4) (n : Int) (w : World) (h : RefR w X sb m S) (hF : S.F = []) :
    Calls Try.prog 43 #[.pointer (some ⟨sb, 0, none⟩), .agg #[.int .i64 2, .int .i64 n]] w fun e w' => e = .returned (.agg #[.int .i64 0, .bool false, .int .i64 20]) ∧ Fr Nil w w' := by
  have H := Lib.hid h
  obtain ⟨v0, v1, v2, v3, hb, h0, h1, h2, h3⟩ := h.blk
  have lt := hb.lt
  have c2 := hb.cell 2
  simp at c2
  obtain ⟨x2, k2, rfl, _⟩ := h2.fit
  clear hb h0 h1 h2 h3 h
  go_enter Try.func43, Try.ntmps43
  go_wp2_with fail
  refine (shaded_none sb m S n _ (H.out.fr (by (repeat (first | (with_reducible exact Fr.refl _ _) | (with_reducible assumption) | (with_reducible exact Fr.of_nil (by assumption)) | (with_reducible refine Fr.drew ?_) | (with_reducible refine Fr.drewN ?_ _) | (with_reducible refine Fr.alloc ?_ _) | (with_reducible refine Fr.set ?_ _ _ (by first | (intros; omega) | (simp; done) | (simp; omega))) | (with_reducible refine Fr.via ?_ (by assumption)) | (with_reducible refine Fr.comp ?_ (by assumption)))))) hF).mono ?_
  rintro e w1 ⟨rfl, f1⟩
  obtain ⟨_, _, _⟩ := f1.at (w.heap.size) (by first | assumption | omega | (simp; done) | (simp; omega)); obtain ⟨_, _, _⟩ := f1.at (w.heap.size + 1) (by first | assumption | omega | (simp; done) | (simp; omega))
  have gT := f1.blk (b := w.heap.size + 1) (c := #[.int .i64 0, .bool false, .int .i64 0]) (t := 47) (by (unfold Blk; simp (disch := first | omega | (simp; done) | (simp; omega)) only [hp_drew, hp_drewN, hp_alloc, hp_other, hp_same, hp_new, upd_cells, Option.map_some])) (fun q => q)
  have t0 := gT.cell 0
  have t1 := gT.cell 1
  have t2 := gT.cell 2
  simp at t0 t1 t2
  have tl := gT.lt
  go_wp2
  refine bodyPost_ret (v := .agg #[.int .i64 0, .bool false, .int .i64 20]) (by simp [results, Try.results43, go_sem, t0, t1, t2, tl]) rfl ⟨rfl, by (repeat (first | (with_reducible exact Fr.refl _ _) | (with_reducible assumption) | (with_reducible exact Fr.of_nil (by assumption)) | (with_reducible refine Fr.drew ?_) | (with_reducible refine Fr.drewN ?_ _) | (with_reducible refine Fr.alloc ?_ _) | (with_reducible refine Fr.set ?_ _ _ (by first | (intros; omega) | (simp; done) | (simp; omega))) | (with_reducible refine Fr.via ?_ (by assumption)) | (with_reducible refine Fr.comp ?_ (by assumption))))⟩
set_option maxRecDepth 100000 in
theorem dnext_no {X : Nat → Prop} (sb m : Nat) (S : Seg4) (n : Int) (w : World) (h : RefR w X sb m S) (hG : S.G = []) :
    Calls Try.prog 43 #[.pointer (some ⟨sb, 0, none⟩), .agg #[.int .i64 3, .int .i64 n]] w fun e w' => e = .returned (.agg #[.int .i64 0, .bool false, .int .i64 0]) ∧ Fr Nil w w' := by
  obtain ⟨v0, v1, v2, v3, hb, h0, h1, h2, h3⟩ := h.blk
  have lt := hb.lt
  have c2 := hb.cell 2
  simp at c2
  obtain ⟨x2, k2, rfl, _⟩ := h2.fit
  rw [hG] at c2
  simp only [List.length_nil] at c2
  clear hb h0 h1 h2 h3 h
  go_enter Try.func43, Try.ntmps43
  go_wp2
  refine bodyPost_ret (v := .agg #[.int .i64 0, .bool false, .int .i64 0]) (by simp [results, Try.results43, go_sem]) rfl ⟨rfl, by (repeat (first | (with_reducible exact Fr.refl _ _) | (with_reducible assumption) | (with_reducible exact Fr.of_nil (by assumption)) | (with_reducible refine Fr.drew ?_) | (with_reducible refine Fr.drewN ?_ _) | (with_reducible refine Fr.alloc ?_ _) | (with_reducible refine Fr.set ?_ _ _ (by first | (intros; omega) | (simp; done) | (simp; omega))) | (with_reducible refine Fr.via ?_ (by assumption)) | (with_reducible refine Fr.comp ?_ (by assumption))))⟩
set_option maxRecDepth 100000 in
theorem ddone_no {X : Nat → Prop} (sb m : Nat) (S : Seg4) (n : Int) (w : World) (h : RefR w X sb m S) (hG : S.G = []) :
    Calls Try.prog 43 #[.pointer (some ⟨sb, 0, none⟩), .agg #[.int .i64 4, .int .i64 n]] w fun e w' => e = .returned (.agg #[.int .i64 0, .bool false, .int .i64 18]) ∧ Fr Nil w w' := by
  obtain ⟨v0, v1, v2, v3, hb, h0, h1, h2, h3⟩ := h.blk
  have lt := hb.lt
  have c2 := hb.cell 2
  simp at c2
  obtain ⟨x2, k2, rfl, _⟩ := h2.fit
  rw [hG] at c2
  simp only [List.length_nil] at c2
  clear hb h0 h1 h2 h3 h
  go_enter Try.func43, Try.ntmps43
  go_wp2
  refine bodyPost_ret (v := .agg #[.int .i64 0, .bool false, .int .i64 18]) (by simp [results, Try.results43, go_sem]) rfl ⟨rfl, by (repeat (first | (with_reducible exact Fr.refl _ _) | (with_reducible assumption) | (with_reducible exact Fr.of_nil (by assumption)) | (with_reducible refine Fr.drew ?_) | (with_reducible refine Fr.drewN ?_ _) | (with_reducible refine Fr.alloc ?_ _) | (with_reducible refine Fr.set ?_ _ _ (by first | (intros; omega) | (simp; done) | (simp; omega))) | (with_reducible refine Fr.via ?_ (by assumption)) | (with_reducible refine Fr.comp ?_ (by assumption))))⟩
set_option maxRecDepth 100000 in
theorem dnext_some {X : Nat → Prop} (sb m c : Nat) (G0 : List Nat) (S : Seg4) (n : Int) (w : World) (h : RefR w X sb m S) (hG : S.G = G0 ++ [c]) (hl : S.G.length ≤ 100000) :
    Calls Try.prog 43 #[.pointer (some ⟨sb, 0, none⟩), .agg #[.int .i64 3, .int .i64 n]] w fun e w' => e = .returned (.agg #[.int .i64 (c : Int), .bool true, .int .i64 0]) ∧ Fr Nil w w' := by
  obtain ⟨v0, v1, v2, v3, hb, h0, h1, h2, h3⟩ := h.blk
  have lt := hb.lt
  have c2 := hb.cell 2
  simp at c2
  have hlen : S.G.length = G0.length + 1 := by rw [hG]; simp
  obtain ⟨g, cap, rfl, _, hsg, hgl, hc⟩ := h2.form (by omega)
  have p0 := hc G0.length (by omega)
  have e : S.G[G0.length]'(by omega) = c := by simp [hG]
  rw [e, natV] at p0
  obtain ⟨k, hk⟩ : ∃ k, G0.length = k := ⟨_, rfl⟩
  rw [hk] at hlen p0
  rw [hlen] at c2 hl
  have a0 : (((k + 1 : Nat) : Int) == 0) = false := by simp; omega
  have a1 : ((k + 1 : Nat) : Int) - 1 = (k : Int) := by omega
  have a2 : IntKind.i64.wrap (((k + 1 : Nat) : Int) - 1) = (k : Int) := by rw [IntKind.wrap_i64]; omega
  have a3 : (0 : Int) ≤ (k : Int) := by omega
  have a4 : (k : Int) < (k : Int) + 1 := by omega
  clear hb h0 h1 h2 h3 h hc e hG
  go_enter Try.func43, Try.ntmps43
  go_wp2
  refine bodyPost_ret (v := .agg #[.int .i64 (c : Int), .bool true, .int .i64 0]) (by simp [results, Try.results43, go_sem]) rfl ⟨rfl, by (repeat (first | (with_reducible exact Fr.refl _ _) | (with_reducible assumption) | (with_reducible exact Fr.of_nil (by assumption)) | (with_reducible refine Fr.drew ?_) | (with_reducible refine Fr.drewN ?_ _) | (with_reducible refine Fr.alloc ?_ _) | (with_reducible refine Fr.set ?_ _ _ (by first | (intros; omega) | (simp; done) | (simp; omega))) | (with_reducible refine Fr.via ?_ (by assumption)) | (with_reducible refine Fr.comp ?_ (by assumption))))⟩
set_option maxRecDepth 100000 in
theorem dshade_some {Z : Nat → Prop} (sb m c : Nat) (W F G B F1 F2 : List Nat) (n : Int) (w : World) (h : RefR w Z sb m ⟨W, F, G, B⟩) (hF : F = F1 ++ c :: F2) (hn : (n.tmod (F.length : Int)).natAbs = F1.length) (hnd : c ∉ F1) (hl : F.length ≤ 100000) (hlG : G.length ≤ 100000) (hZ : ∀ b, Z b → b < w.heap.size) :
    Calls Try.prog 43 #[.pointer (some ⟨sb, 0, none⟩), .agg #[.int .i64 2, .int .i64 n]] w fun e w' => e = .returned (.agg #[.int .i64 0, .bool false, .int .i64 0]) ∧ RefR w' Z sb m ⟨W, F1 ++ F2, G ++ [c], B⟩ ∧ Fr (fun x => x = sb) w w' := by
  have H := Lib.hid h
  have HSS := Lib.hid (And.intro h.at_ h.is)
  have HX := Lib.hid hZ
  clear hZ
  obtain ⟨v0, v1, v2, v3, hb, h0, h1, h2, h3⟩ := h.blk
  have lt := hb.lt
  have c2 := hb.cell 2
  simp at c2
  simp only at h0 h1 h2 h3
  have hlen : F1.length < F.length := by rw [hF]; simp
  have hpc : F[F1.length]'hlen = c := by simp [hF]
  have hdrop : F.take F1.length ++ F.drop (F1.length + 1) = F1 ++ F2 := by simp [hF]
  have hne : ∀ j (hj : j < F1.length), F[j]'(by omega) ≠ c := fun j hj q => hnd (by rw [← q]; simp [hF, List.getElem_append_left hj])
  obtain ⟨x2, k2, rfl, _⟩ := h2.fit
  have hform := h1.form (by omega)
  have HW1 := Lib.hid (And.intro h0 (And.intro h1 (And.intro h2 h3)))
  obtain ⟨g, cap, rfl, _, hsg, hgl, hc⟩ := hform
  obtain ⟨N, hN⟩ : ∃ N, F.length = N := ⟨_, rfl⟩
  obtain ⟨K, hK⟩ : ∃ K, F1.length = K := ⟨_, rfl⟩
  obtain ⟨n2, hn2⟩ : ∃ n, G.length = n := ⟨_, rfl⟩
  rw [hN] at hb hl HW1
  rw [hn2] at c2 hlG HW1 hb
  have HF := Lib.hid (And.intro hN (And.intro hK (And.intro hn2 (And.intro hpc (And.intro hdrop (And.intro hne hc))))))
  have hKN : K < N := by rw [← hN, ← hK]; exact hlen
  have HB := Lib.hid hb
  have HSH := Lib.hid (And.intro hF (And.intro (show (Seg4.mk W F G B).F.length ≤ 100000 by show F.length ≤ _; rw [hN]; exact hl) hn))
  obtain ⟨i0, hi, hz0, hz1, hz2⟩ := info_parts infoI
  clear hb h0 h1 h2 h3 h hc hpc hdrop hne hK hN hn2 hnd hF hn
  go_enter Try.func43, Try.ntmps43
  go_wp2_with fail
  refine (shaded_some sb m ⟨W, F, G, B⟩ n F1 F2 c _ (H.out.fr (by (repeat (first | (with_reducible exact Fr.refl _ _) | (with_reducible assumption) | (with_reducible exact Fr.of_nil (by assumption)) | (with_reducible refine Fr.drew ?_) | (with_reducible refine Fr.drewN ?_ _) | (with_reducible refine Fr.alloc ?_ _) | (with_reducible refine Fr.set ?_ _ _ (by first | (intros; omega) | (simp; done) | (simp; omega))) | (with_reducible refine Fr.via ?_ (by assumption)) | (with_reducible refine Fr.comp ?_ (by assumption)))))) HSH.out.1 HSH.out.2.1 HSH.out.2.2).mono ?_
  rintro e w1 ⟨rfl, f1⟩
  have gT := f1.blk (b := w.heap.size + 1) (c := #[.int .i64 0, .bool false, .int .i64 0]) (t := 47) (by (unfold Blk; simp (disch := first | omega | (simp; done) | (simp; omega)) only [hp_drew, hp_drewN, hp_alloc, hp_other, hp_same, hp_new, upd_cells, Option.map_some])) (fun q => q)
  have fw1 : Fr Nil w w1 := by (repeat (first | (with_reducible exact Fr.refl _ _) | (with_reducible assumption) | (with_reducible exact Fr.of_nil (by assumption)) | (with_reducible refine Fr.drew ?_) | (with_reducible refine Fr.drewN ?_ _) | (with_reducible refine Fr.alloc ?_ _) | (with_reducible refine Fr.set ?_ _ _ (by first | (intros; omega) | (simp; done) | (simp; omega))) | (with_reducible refine Fr.via ?_ (by assumption)) | (with_reducible refine Fr.comp ?_ (by assumption))))
  have HT := Lib.hid gT
  have sz1 : w.heap.size + 1 < w1.heap.size := gT.lt
  have d0 : ¬ (c : Int) < 0 := by omega
  clear gT f1
  go_wp2_with fail
  go_loopg [7] (K + 1) (fun g iv wr => ∃ k : Nat, g = K + 1 - k ∧ k ≤ K ∧ iv = .int .i64 k ∧ Fr Nil w1 wr)
  case atStart => exact ⟨0, rfl, by omega, rfl, Fr.refl _ _⟩
  case round =>
    obtain ⟨k, rfl, hk, rfl, hw⟩ := hrel
    have fwr : Fr Nil w wr := fw1.comp hw
    have bS := fwr.blk HB.out (fun q => q)
    have bT := hw.blk HT.out (fun q => q)
    have y1 := bS.cell 1
    have y2 := bS.cell 2
    have y1z := bS.free 1
    simp at y1 y2
    have yl := bS.lt
    have tl := bT.lt
    have i0' : (0 : Int) ≤ (k : Int) := by omega
    have i1 : (k : Int) < (N : Int) := by omega
    have hkF : k < F.length := by rw [HF.out.1]; omega
    have p0 := fwr.cell (HF.out.2.2.2.2.2.2 k hkF) (by simp [Nil])
    obtain ⟨x, hx⟩ : ∃ x, F[k] = x := ⟨_, rfl⟩
    rw [hx, natV] at p0
    have gl : g < wr.heap.size := World.block_lt_of_cell? wr _ p0
    by_cases hkK : k < K
    · have hxc : x ≠ c := by rw [← hx]; exact HF.out.2.2.2.2.2.1 k (by rw [HF.out.2.1]; exact hkK)
      have d1 : ((x : Int) == (c : Int)) = false := by simp; omega
      have d2 : ¬ (x : Int) = (c : Int) := by omega
      have HH := Lib.hid (And.intro hx hxc)
      have HBS := Lib.hid (And.intro bS bT)
      clear hx hxc bS bT
      go_wp2
      go_roundg (K + 1 - (k + 1))
      case rel => exact ⟨k + 1, rfl, by omega, by go_num, by (repeat (first | (with_reducible exact Fr.refl _ _) | (with_reducible assumption) | (with_reducible exact Fr.of_nil (by assumption)) | (with_reducible refine Fr.drew ?_) | (with_reducible refine Fr.drewN ?_ _) | (with_reducible refine Fr.alloc ?_ _) | (with_reducible refine Fr.set ?_ _ _ (by first | (intros; omega) | (simp; done) | (simp; omega))) | (with_reducible refine Fr.via ?_ (by assumption)) | (with_reducible refine Fr.comp ?_ (by assumption))))⟩
      case measure => omega
    · obtain rfl : k = K := by omega
      have hxc : x = c := by rw [← hx, ← HF.out.2.2.2.1]; congr 1; exact HF.out.2.1.symm
      subst hxc
      have HWO := Lib.hid (without_any F _ k wr ((HW1.out.2.1).fr fwr) hkF (by rw [HF.out.1]; exact hl))
      have HBS := Lib.hid (And.intro bS bT)
      clear hx bS bT
      go_wp2_with fail
      refine HWO.out.mono ?_
      rintro e w5 ⟨v', rfl, hr, f5⟩
      rw [show F.take k ++ F.drop (k + 1) = F1 ++ F2 by rw [← HF.out.2.1]; exact HF.out.2.2.2.2.1] at hr
      have HR5 := Lib.hid hr
      obtain ⟨q1, q2, ev⟩ := owns_sh hr
      obtain ⟨nL, hnL⟩ : ∃ n, (F1 ++ F2).length = n := ⟨_, rfl⟩
      rw [hnL] at ev
      subst ev
      have cS := f5.blk HBS.out.1 (fun q => q)
      have z1 := cS.free 1
      have zc1 := cS.cell 1
      simp at zc1
      have zl := cS.lt
      have HCS := Lib.hid cS
      have cT := f5.blk HBS.out.2 (fun q => q)
      have HCT := Lib.hid cT
      have sz5 := f5.size
      clear hr cS cT hnL
      go_upto_region 12 with fail
      obtain ⟨X, hX⟩ : ∃ X, w5.setCell ⟨sb, 1, none⟩ (.slice q1 nL q2) = X := ⟨_, rfl⟩
      rw [hX]
      have ne1 : sb ≠ w.heap.size + 1 := by omega
      have xS : Blk X sb #[v0, .slice q1 nL q2, .slice x2 n2 k2, v3, .int .i64 (m : Int)] 58 := by
        rw [← hX]
        (unfold Blk; simp (disch := first | omega | (simp; done) | (simp; omega)) only [hp_drew, hp_drewN, hp_alloc, hp_other, hp_same, hp_new, upd_cells, Option.map_some, (HCS.out).eq])
        simp
      have xT : Blk X (w.heap.size + 1) #[.int .i64 0, .bool false, .int .i64 0] 47 := by
        rw [← hX]
        (unfold Blk; simp (disch := first | omega | (simp; done) | (simp; omega)) only [hp_drew, hp_drewN, hp_alloc, hp_other, hp_same, hp_new, upd_cells, Option.map_some, (HCT.out).eq])
      have f5X : Fr (fun x => x = sb) w5 X := by rw [← hX]; (repeat (first | (with_reducible exact Fr.refl _ _) | (with_reducible assumption) | (with_reducible exact Fr.of_nil (by assumption)) | (with_reducible refine Fr.drew ?_) | (with_reducible refine Fr.drewN ?_ _) | (with_reducible refine Fr.alloc ?_ _) | (with_reducible refine Fr.set ?_ _ _ (by first | (intro _; exact rfl) | (intro _; exact .inl rfl) | (intro _; exact .inr rfl) | (intro q; exact absurd q (Nat.lt_irrefl _)) | (intro q; simp at q; omega))) | (with_reducible refine Fr.via ?_ (by assumption)) | (with_reducible refine Fr.comp ?_ (by assumption))))
      have fwX : Fr (fun x => x = sb) w X := (fwr.comp f5).of_nil.comp f5X
      have szX := f5X.size
      clear hX
      have sz0 := fwr.size
      have r2 := HW1.out.2.2.1.frS fwX HSS.out.2
      have HS2 := Lib.hid r2.src.2
      have x2c := xS.cell 2
      simp at x2c
      have x2f := xS.free 2
      have xl := xS.lt
      have xtl := xT.lt
      have HXX := Lib.hid (And.intro xS xT)
      have HE := Lib.hid (owns_empty X X.heap.size 1 3 (Nat.le_refl _))
      clear xS xT r2 HBS HWO
      go_wp2_with (first
        | (at_builtin; refine wpList_append_src rfl (.tmp 57) (.tmp 62) 30 rfl X.heap.size 3 i0 (.int .i64 0) 1 8 Try.underlying30 hi hz0 hz1 hz2 rfl (by decide) (.slice (some ⟨X.heap.size, 0, none⟩) 0 0) 0 [] rfl HE.out x2 n2 k2 (G.map natV) rfl (HS2.out _ (by (repeat (first | (with_reducible exact Fr.refl _ _) | (with_reducible assumption) | (with_reducible exact Fr.of_nil (by assumption)) | (with_reducible refine Fr.drew ?_) | (with_reducible refine Fr.drewN ?_ _) | (with_reducible refine Fr.alloc ?_ _) | (with_reducible refine Fr.set ?_ _ _ (by first | (intros; omega) | (simp; done) | (simp; omega))) | (with_reducible refine Fr.via ?_ (by assumption)) | (with_reducible refine Fr.comp ?_ (by assumption)))))) (natV_one _) (by unfold maxLen; omega) (by omega) (by first | omega | (simp <;> omega)) ?_; intro v6 w6 hown6 hgrow6 hat6; simp only [Nat.zero_add, List.nil_append] at hown6; have f6 : Fr Nil X w6 := Fr.grown (by (repeat (first | (with_reducible exact Fr.refl _ _) | (with_reducible assumption) | (with_reducible exact Fr.of_nil (by assumption)) | (with_reducible refine Fr.drew ?_) | (with_reducible refine Fr.drewN ?_ _) | (with_reducible refine Fr.alloc ?_ _) | (with_reducible refine Fr.set ?_ _ _ (by first | (intros; omega) | (simp; done) | (simp; omega))) | (with_reducible refine Fr.via ?_ (by assumption)) | (with_reducible refine Fr.comp ?_ (by assumption))))) hgrow6 (fun k q hk => by simp [Value.ownBlock] at q; omega); have HOWN6 := Lib.hid hown6; have hsz6 := f6.size; have HLT6 := Lib.hid hown6.lt; obtain ⟨b6, k6, rfl⟩ := owns_sh hown6; clear hown6 hgrow6 hat6)
        | (at_builtin; refine wpList_append_src rfl (.tmp 63) (.tmp 65) 30 rfl X.heap.size 3 i0 (.int .i64 0) 1 8 Try.underlying30 hi hz0 hz1 hz2 rfl (by decide) (.slice b6 n2 k6) n2 _ rfl (HOWN6.out.alloc _) (some ⟨w6.heap.size, 0, none⟩) 1 1 [.int .i64 (x : Int)] rfl (src_int (t := 3) (by (unfold Blk; simp (disch := first | omega | (simp; done) | (simp; omega)) only [hp_drew, hp_drewN, hp_alloc, hp_other, hp_same, hp_new, upd_cells, Option.map_some]))) (natV_one [x]) (by unfold maxLen; omega) (by omega) (by first | omega | (simp <;> omega)) ?_; intro v7 w7 hown7 hgrow7 hat7; have f7 : Fr Nil X w7 := Fr.grown (f6.alloc _) hgrow7 (fun k q hk => by have := HLT6.out k q; omega); have HOWN7 := Lib.hid hown7; have hsz7 := f7.size; obtain ⟨b7, k7, rfl⟩ := owns_sh hown7; clear hown7 hgrow7 hat7; have tS := f7.blk HXX.out.1 (by simp [Nil]); have tT := f7.blk HXX.out.2 (by simp [Nil]); have u0 := tS.cell 2; have u1 := tS.free 2; have u2 := tS.lt; have t0 := tT.cell 0; have t1 := tT.cell 1; have t2 := tT.cell 2; have t3 := tT.free 0; have t4 := tT.free 1; have t5 := tT.free 2; have t6 := tT.lt; simp at u0 t0 t1 t2; have ne2 : w.heap.size + 1 ≠ sb := by omega))
      refine bodyPost_ret (v := .agg #[.int .i64 0, .bool false, .int .i64 0]) (by simp [results, Try.results43, go_sem, t0, t1, t2, ne1, ne2]) rfl ⟨rfl, ?_, ?_⟩
      · have hN : RowN X.heap.size w7 (.slice b7 (n2 + 1) k7) (G ++ [x]) := by
          unfold RowN
          rw [show (G ++ [x]).length = n2 + 1 by have := HF.out.2.2.1; simp; omega]
          have hh := HOWN7.out
          rw [show [Value.int .i64 (x : Int)] = [x].map natV from rfl, ← List.map_append] at hh
          exact hh
        have fin : ∀ V, Fr (fun x => x = sb ∨ x = w.heap.size + 1) w7 V → Fr (fun x => x = sb) w V → Blk V sb #[v0, .slice q1 nL q2, .slice b7 (n2 + 1) k7, v3, .int .i64 (m : Int)] 58 → RefR V Z sb m ⟨W, F1 ++ F2, G ++ [x], B⟩ := fun V fV fwV hB =>
          ⟨HSS.out.1, _, _, _, _, hB, HW1.out.1.frS fwV HSS.out.2, HR5.out.toBS (sb := sb) (T := w.heap.size + 1) (((f5X.mono (fun _ _ q => .inl q)).via f7).comp fV) (by omega) (by omega) (fun b q => by have := HX.out b q; omega), hN.toBS (sb := sb) (T := w.heap.size + 1) fV (by omega) (by omega) (fun b q => by have := HX.out b q; omega), HW1.out.2.2.2.frS fwV HSS.out.2⟩
        refine fin _ ?_ ?_ ?_
        · (repeat (first | (with_reducible exact Fr.refl _ _) | (with_reducible assumption) | (with_reducible exact Fr.of_nil (by assumption)) | (with_reducible refine Fr.drew ?_) | (with_reducible refine Fr.drewN ?_ _) | (with_reducible refine Fr.alloc ?_ _) | (with_reducible refine Fr.set ?_ _ _ (by first | (intro _; exact rfl) | (intro _; exact .inl rfl) | (intro _; exact .inr rfl) | (intro q; exact absurd q (Nat.lt_irrefl _)) | (intro q; simp at q; omega))) | (with_reducible refine Fr.via ?_ (by assumption)) | (with_reducible refine Fr.comp ?_ (by assumption))))
        · (repeat (first | (with_reducible exact Fr.refl _ _) | (with_reducible assumption) | (with_reducible exact Fr.of_nil (by assumption)) | (with_reducible refine Fr.drew ?_) | (with_reducible refine Fr.drewN ?_ _) | (with_reducible refine Fr.alloc ?_ _) | (with_reducible refine Fr.set ?_ _ _ (by first | (intro _; exact rfl) | (intro _; exact .inl rfl) | (intro _; exact .inr rfl) | (intro q; exact absurd q (Nat.lt_irrefl _)) | (intro q; simp at q; omega))) | (with_reducible refine Fr.via ?_ (by assumption)) | (with_reducible refine Fr.comp ?_ (by assumption))))
        · (unfold Blk; simp (disch := first | omega | (simp; done) | (simp; omega)) only [hp_drew, hp_drewN, hp_alloc, hp_other, hp_same, hp_new, upd_cells, Option.map_some, (tS).eq])
          simp
      · (repeat (first | (with_reducible exact Fr.refl _ _) | (with_reducible assumption) | (with_reducible exact Fr.of_nil (by assumption)) | (with_reducible refine Fr.drew ?_) | (with_reducible refine Fr.drewN ?_ _) | (with_reducible refine Fr.alloc ?_ _) | (with_reducible refine Fr.set ?_ _ _ (by first | (intro _; exact rfl) | (intro _; exact .inl rfl) | (intro _; exact .inr rfl) | (intro q; exact absurd q (Nat.lt_irrefl _)) | (intro q; simp at q; omega))) | (with_reducible refine Fr.via ?_ (by assumption)) | (with_reducible refine Fr.comp ?_ (by assumption))))
end Go.Proofs.Ytlpdlhmdhlcdlaa
