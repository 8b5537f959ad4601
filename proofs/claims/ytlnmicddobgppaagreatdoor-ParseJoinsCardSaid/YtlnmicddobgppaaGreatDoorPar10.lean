/-
  An expression (layer 8): a fault, too deep, a choice. No conditions.
-/
import Derived.Test.YtlnmicddobgppaaGreatDoorPar9
namespace Go.Proofs.YtlnmicddobgppaaGreatDoor
set_option linter.unusedSimpArgs false
set_option linter.unusedVariables false
open Go.RowKit

section
variable {w : World} {pb : Nat} {vT : Value} {L : List TokV} {s : PS} {deep : Nat} {ex : PS → TE × PS}
set_option maxRecDepth 100000 in
set_option maxHeartbeats 8000000 in
theorem pexpr_err (h : PAt w pb vT L s) (he : s.e ≠ 0) :
    Calls Tryz.prog 61 #[.pointer (some ⟨pb, 0, none⟩), .int .i64 (deep : Int)] w fun r w' => ∃ v, r = .returned v ∧ EVal (fun b => b < w.heap.size) w' v zeroE ∧ PAt w' pb vT L s ∧ Fr (fun b => b = pb) w w' := by
  obtain ⟨p0, p1, p2, p3, pf, pl⟩ := h.facts
  have hpl := h.blk.lt
  have HP := Lib.hid h
  obtain ⟨T, hT⟩ : ∃ T, w.heap.size = T := ⟨_, rfl⟩
  rw [hT] at hpl ⊢
  have hne : T ≠ pb := by omega
  have i2 : ¬ (s.e : Int) = 0 := by omega
  have d2 : ((s.e : Int) != 0) = true := by simpa using i2
  clear h
  go_enter Tryz.func61, Tryz.ntmps61
  have bT0 := Blk.new w #[.int .i64 0, .string ⟨#[]⟩, .bool false, .int .u64 0, .slice none 0 0, .slice none 0 0, .slice none 0 0, .slice none 0 0] 49
  rw [hT] at bT0
  have f0 : Fr Nil w (w.alloc (.cells #[.int .i64 0, .string ⟨#[]⟩, .bool false, .int .u64 0, .slice none 0 0, .slice none 0 0, .slice none 0 0, .slice none 0 0] 49)) := by (repeat (first | (with_reducible exact Fr.refl _ _) | (with_reducible assumption) | (with_reducible exact Fr.of_nil (by assumption)) | (with_reducible refine Fr.drew ?_) | (with_reducible refine Fr.drewN ?_ _) | (with_reducible refine Fr.alloc ?_ _) | (with_reducible refine Fr.set ?_ _ _ (by first | (intros; omega) | (simp; done) | (simp; omega))) | (with_reducible refine Fr.via ?_ (by assumption)) | (with_reducible refine Fr.comp ?_ (by assumption))))
  have F0 : Fr (fun b => b = pb) w (w.alloc (.cells #[.int .i64 0, .string ⟨#[]⟩, .bool false, .int .u64 0, .slice none 0 0, .slice none 0 0, .slice none 0 0, .slice none 0 0] 49)) := Fr.of_nil f0
  have h0 := HP.out.fr f0
  have fin : Hid (∀ wf, Fr (fun b => b = T) (w.alloc (.cells #[.int .i64 0, .string ⟨#[]⟩, .bool false, .int .u64 0, .slice none 0 0, .slice none 0 0, .slice none 0 0, .slice none 0 0] 49)) wf → ∃ v', Ending.returned (.agg #[.int .i64 0, .string ⟨#[]⟩, .bool false, .int .u64 0, .slice none 0 0, .slice none 0 0, .slice none 0 0, .slice none 0 0]) = .returned v' ∧ EVal (fun b => b < T) wf v' zeroE ∧ PAt wf pb vT L s ∧ Fr (fun b => b = pb) w wf) := fun wf g => by
    have FF : Fr (fun b => b = pb) w wf := F0.trans g (fun b hb q => by have q' : b = T := q; omega)
    exact ⟨_, rfl, ⟨_, rfl, EAt.zero⟩, HP.out.keep FF h0 g (fun q => hne q.symm), FF⟩
  clear bT0 f0 F0 h0
  go_wp2
  (try simp only [Exit.inBlock, Exit.then])
  refine bodyPost_ret (v := .agg #[.int .i64 0, .string ⟨#[]⟩, .bool false, .int .u64 0, .slice none 0 0, .slice none 0 0, .slice none 0 0, .slice none 0 0]) (by simp [results, Tryz.results61, go_sem, *]) rfl ?_
  exact fin.out _ (by (repeat (first | (with_reducible exact Fr.refl _ _) | (with_reducible assumption) | (with_reducible exact Fr.of_nil (by assumption)) | (with_reducible refine Fr.drew ?_) | (with_reducible refine Fr.drewN ?_ _) | (with_reducible refine Fr.alloc ?_ _) | (with_reducible refine Fr.set ?_ _ _ (by first | (intro _; exact rfl) | (intro _; exact .inl rfl) | (intro _; exact .inr rfl) | (intro q; exact absurd q (Nat.lt_irrefl _)) | (intro q; simp at q; omega))) | (with_reducible refine Fr.via ?_ (by assumption)) | (with_reducible refine Fr.comp ?_ (by assumption)))))
set_option maxRecDepth 100000 in
set_option maxHeartbeats 8000000 in
theorem pexpr_deep (h : PAt w pb vT L s) (he : s.e = 0) (hd : 200 < deep) :
    Calls Tryz.prog 61 #[.pointer (some ⟨pb, 0, none⟩), .int .i64 (deep : Int)] w fun r w' => ∃ v, r = .returned v ∧ EVal (fun b => b < w.heap.size) w' v zeroE ∧ PAt w' pb vT L (faultF L 3 (if startsF L s = true then faultF L 12 s else s)) ∧ Fr (fun b => b = pb) w w' := by
  obtain ⟨p0, p1, p2, p3, pf, pl⟩ := h.facts
  have hpl := h.blk.lt
  have HP := Lib.hid h
  obtain ⟨T, hT⟩ : ∃ T, w.heap.size = T := ⟨_, rfl⟩
  rw [hT] at hpl ⊢
  have hne : T ≠ pb := by omega
  have i2 : (s.e : Int) = 0 := by omega
  rw [i2] at p2
  have i3 : (200 : Int) < (deep : Int) := by omega
  obtain ⟨B, hB⟩ : ∃ B, startsF L s = B := ⟨_, rfl⟩
  rw [hB]
  have HB := Lib.hid hB
  clear hB
  clear h
  go_enter Tryz.func61, Tryz.ntmps61
  go_upto_region 1 with fail
  obtain ⟨W0, hW0⟩ : ∃ W0, w.alloc (.cells #[.int .i64 0, .string ⟨#[]⟩, .bool false, .int .u64 0, .slice none 0 0, .slice none 0 0, .slice none 0 0, .slice none 0 0] 49) = W0 := ⟨_, rfl⟩
  have f0 : Fr Nil w W0 := by rw [← hW0]; (repeat (first | (with_reducible exact Fr.refl _ _) | (with_reducible assumption) | (with_reducible exact Fr.of_nil (by assumption)) | (with_reducible refine Fr.drew ?_) | (with_reducible refine Fr.drewN ?_ _) | (with_reducible refine Fr.alloc ?_ _) | (with_reducible refine Fr.set ?_ _ _ (by first | (intros; omega) | (simp; done) | (simp; omega))) | (with_reducible refine Fr.via ?_ (by assumption)) | (with_reducible refine Fr.comp ?_ (by assumption))))
  have bT0 : Blk W0 T #[.int .i64 0, .string ⟨#[]⟩, .bool false, .int .u64 0, .slice none 0 0, .slice none 0 0, .slice none 0 0, .slice none 0 0] 49 := by
    rw [← hW0]
    have h := Blk.new w #[.int .i64 0, .string ⟨#[]⟩, .bool false, .int .u64 0, .slice none 0 0, .slice none 0 0, .slice none 0 0, .slice none 0 0] 49
    rw [hT] at h
    exact h
  have h0 := HP.out.fr f0
  rw [hW0]
  have p2 := f0.cell p2 (by simp [Nil])
  have pl0 := f0.lt pl
  clear hW0 p0 p1 p3 pf
  go_wp2_with fail
  refine (pstarts_any h0).mono ?_
  rw [HB.out]
  rintro e w1 ⟨rfl, f1⟩
  have h1 := h0.fr f1
  have bT1 := f1.blk bT0 (fun q => q)
  have F1 : Fr (fun b => b = pb) w w1 := Fr.of_nil (f0.comp f1)
  clear p2 f1 f0 bT0 h0 pl0 pl
  cases B with
  | true =>
    go_wp2_with fail
    refine (pfault_any 12 h1).mono ?_
    rintro e w2 ⟨rfl, h2, f2⟩
    have bT2 := f2.blk bT1 hne
    have F2 := F1.comp f2
    clear f2 h1 bT1 F1
    go_wp2_with fail
    refine (pfault_any 3 h2).mono ?_
    rintro e w3 ⟨rfl, h3, f3⟩
    have bT3 := f3.blk bT2 hne
    have F3 := F2.comp f3
    clear f3 h2 bT2 F2
    have Tc := bT3.cell
    have Tf := bT3.free
    have Tl := bT3.lt
    have fin : Hid (∀ wf, Fr (fun b => b = T) w3 wf → ∃ v', Ending.returned (.agg #[.int .i64 0, .string ⟨#[]⟩, .bool false, .int .u64 0, .slice none 0 0, .slice none 0 0, .slice none 0 0, .slice none 0 0]) = .returned v' ∧ EVal (fun b => b < T) wf v' zeroE ∧ PAt wf pb vT L (faultF L 3 (faultF L 12 s)) ∧ Fr (fun b => b = pb) w wf) := fun wf g => by
      have FF : Fr (fun b => b = pb) w wf := F3.trans g (fun b hb q => by have q' : b = T := q; omega)
      exact ⟨_, rfl, ⟨_, rfl, EAt.zero⟩, HP.out.keep FF h3 g (fun q => hne q.symm), FF⟩
    go_wp2
    (try simp only [Exit.inBlock, Exit.then])
    refine bodyPost_ret (v := .agg #[.int .i64 0, .string ⟨#[]⟩, .bool false, .int .u64 0, .slice none 0 0, .slice none 0 0, .slice none 0 0, .slice none 0 0]) (by simp [results, Tryz.results61, go_sem, *]) rfl ?_
    exact fin.out _ (by (repeat (first | (with_reducible exact Fr.refl _ _) | (with_reducible assumption) | (with_reducible exact Fr.of_nil (by assumption)) | (with_reducible refine Fr.drew ?_) | (with_reducible refine Fr.drewN ?_ _) | (with_reducible refine Fr.alloc ?_ _) | (with_reducible refine Fr.set ?_ _ _ (by first | (intro _; exact rfl) | (intro _; exact .inl rfl) | (intro _; exact .inr rfl) | (intro q; exact absurd q (Nat.lt_irrefl _)) | (intro q; simp at q; omega))) | (with_reducible refine Fr.via ?_ (by assumption)) | (with_reducible refine Fr.comp ?_ (by assumption)))))
  | false =>
    go_wp2_with fail
    refine (pfault_any 3 h1).mono ?_
    rintro e w3 ⟨rfl, h3, f3⟩
    have bT3 := f3.blk bT1 hne
    have F3 := F1.comp f3
    clear f3 h1 bT1 F1
    have Tc := bT3.cell
    have Tf := bT3.free
    have Tl := bT3.lt
    have fin : Hid (∀ wf, Fr (fun b => b = T) w3 wf → ∃ v', Ending.returned (.agg #[.int .i64 0, .string ⟨#[]⟩, .bool false, .int .u64 0, .slice none 0 0, .slice none 0 0, .slice none 0 0, .slice none 0 0]) = .returned v' ∧ EVal (fun b => b < T) wf v' zeroE ∧ PAt wf pb vT L (faultF L 3 s) ∧ Fr (fun b => b = pb) w wf) := fun wf g => by
      have FF : Fr (fun b => b = pb) w wf := F3.trans g (fun b hb q => by have q' : b = T := q; omega)
      exact ⟨_, rfl, ⟨_, rfl, EAt.zero⟩, HP.out.keep FF h3 g (fun q => hne q.symm), FF⟩
    go_wp2
    (try simp only [Exit.inBlock, Exit.then])
    refine bodyPost_ret (v := .agg #[.int .i64 0, .string ⟨#[]⟩, .bool false, .int .u64 0, .slice none 0 0, .slice none 0 0, .slice none 0 0, .slice none 0 0]) (by simp [results, Tryz.results61, go_sem, *]) rfl ?_
    exact fin.out _ (by (repeat (first | (with_reducible exact Fr.refl _ _) | (with_reducible assumption) | (with_reducible exact Fr.of_nil (by assumption)) | (with_reducible refine Fr.drew ?_) | (with_reducible refine Fr.drewN ?_ _) | (with_reducible refine Fr.alloc ?_ _) | (with_reducible refine Fr.set ?_ _ _ (by first | (intro _; exact rfl) | (intro _; exact .inl rfl) | (intro _; exact .inr rfl) | (intro q; exact absurd q (Nat.lt_irrefl _)) | (intro q; simp at q; omega))) | (with_reducible refine Fr.via ?_ (by assumption)) | (with_reducible refine Fr.comp ?_ (by assumption)))))
set_option maxRecDepth 100000 in
set_option maxHeartbeats 8000000 in
theorem pexpr_case (h : PAt w pb vT L s) (he : s.e = 0) (hd : deep ≤ 200) (hl : seesF L [108, 101, 116] s = false) (hc : seesF L [99, 97, 115, 101] s = true) (hgo : ∀ s, Goes L s (ex s).2) (hex : Reads pb vT L 61 ((deep : Int) + 1) ex) :
    Calls Tryz.prog 61 #[.pointer (some ⟨pb, 0, none⟩), .int .i64 (deep : Int)] w fun r w' => ∃ v, r = .returned v ∧ EVal (fun b => b < w.heap.size) w' v (choiceF L ex s).1 ∧ PAt w' pb vT L (choiceF L ex s).2 ∧ Fr (fun b => b = pb) w w' := by
  obtain ⟨p0, p1, p2, p3, pf, pl⟩ := h.facts
  have hpl := h.blk.lt
  have HP := Lib.hid h
  obtain ⟨T, hT⟩ : ∃ T, w.heap.size = T := ⟨_, rfl⟩
  rw [hT] at hpl ⊢
  have hne : T ≠ pb := by omega
  have i2 : (s.e : Int) = 0 := by omega
  rw [i2] at p2
  have i3 : ¬ (200 : Int) < (deep : Int) := by omega
  have hlt := sees_lt hc
  clear h
  go_enter Tryz.func61, Tryz.ntmps61
  go_upto_region 1 with fail
  obtain ⟨W0, hW0⟩ : ∃ W0, w.alloc (.cells #[.int .i64 0, .string ⟨#[]⟩, .bool false, .int .u64 0, .slice none 0 0, .slice none 0 0, .slice none 0 0, .slice none 0 0] 49) = W0 := ⟨_, rfl⟩
  have f0 : Fr Nil w W0 := by rw [← hW0]; (repeat (first | (with_reducible exact Fr.refl _ _) | (with_reducible assumption) | (with_reducible exact Fr.of_nil (by assumption)) | (with_reducible refine Fr.drew ?_) | (with_reducible refine Fr.drewN ?_ _) | (with_reducible refine Fr.alloc ?_ _) | (with_reducible refine Fr.set ?_ _ _ (by first | (intros; omega) | (simp; done) | (simp; omega))) | (with_reducible refine Fr.via ?_ (by assumption)) | (with_reducible refine Fr.comp ?_ (by assumption))))
  have bT0 : Blk W0 T #[.int .i64 0, .string ⟨#[]⟩, .bool false, .int .u64 0, .slice none 0 0, .slice none 0 0, .slice none 0 0, .slice none 0 0] 49 := by
    rw [← hW0]
    have h := Blk.new w #[.int .i64 0, .string ⟨#[]⟩, .bool false, .int .u64 0, .slice none 0 0, .slice none 0 0, .slice none 0 0, .slice none 0 0] 49
    rw [hT] at h
    exact h
  have h0 := HP.out.fr f0
  rw [hW0]
  have p2 := f0.cell p2 (by simp [Nil])
  have pl0 := f0.lt pl
  clear hW0 p0 p1 p3 pf
  go_wp2_with fail
  refine (psees_any [108, 101, 116] h0).mono ?_
  rw [hl]
  rintro e w1 ⟨rfl, f1⟩
  have h1 := h0.fr f1
  have bT1 := f1.blk bT0 (fun q => q)
  have F1 : Fr (fun b => b = pb) w w1 := Fr.of_nil (f0.comp f1)
  clear p2 pl0 pl f0 h0 bT0 f1
  go_wp2_with fail
  refine (psees_any [99, 97, 115, 101] h1).mono ?_
  rw [hc]
  rintro e w2 ⟨rfl, f2⟩
  have h2 := h1.fr f2
  have bT2 := f2.blk bT1 (fun q => q)
  have F2 : Fr (fun b => b = pb) w w2 := F1.via f2
  clear F1 h1 bT1 f2
  have hTs := bT2.lt
  go_wp2_with fail
  refine (pchoice_any h2 hlt (by omega) hgo hex).mono ?_
  rintro e w3 ⟨ve, rfl, he2, h3, f3⟩
  have bT3 := f3.blk bT2 hne
  have F3 := F2.comp f3
  obtain ⟨cs, rfl, hE⟩ := he2
  obtain ⟨k, nm, fl, bi, a0, n0, c0, a1, n1, c1, a2, n2, c2, a3, n3, c3, rfl⟩ := hE.form
  clear f3 bT2 F2 h2
  have Tc := bT3.cell
  have Tf := bT3.free
  have Tl := bT3.lt
  have fin : Hid (∀ wf, Fr (fun b => b = T) w3 wf → ∃ v', Ending.returned (.agg (eC k nm fl bi a0 n0 c0 a1 n1 c1 a2 n2 c2 a3 n3 c3).toArray) = .returned v' ∧ EVal (fun b => b < T) wf v' ((choiceF L ex s).1) ∧ PAt wf pb vT L ((choiceF L ex s).2) ∧ Fr (fun b => b = pb) w wf) := fun wf g => by
    have FF : Fr (fun b => b = pb) w wf := F3.trans g (fun b hb q => by have q' : b = T := q; omega)
    exact ⟨_, rfl, ⟨_, rfl, (hE.fr g (fun b q => by have q' : b = T := q; omega)).mono (fun b _ q => by omega)⟩, HP.out.keep FF h3 g (fun q => hne q.symm), FF⟩
  clear h3 bT3 F3 hE
  unfold eC
  go_wp2
  (try simp only [Exit.inBlock, Exit.then])
  refine bodyPost_ret (v := .agg (eC k nm fl bi a0 n0 c0 a1 n1 c1 a2 n2 c2 a3 n3 c3).toArray) (by simp [results, Tryz.results61, go_sem, eC, *]) rfl ?_
  exact fin.out _ (by (repeat (first | (with_reducible exact Fr.refl _ _) | (with_reducible assumption) | (with_reducible exact Fr.of_nil (by assumption)) | (with_reducible refine Fr.drew ?_) | (with_reducible refine Fr.drewN ?_ _) | (with_reducible refine Fr.alloc ?_ _) | (with_reducible refine Fr.set ?_ _ _ (by first | (intro _; exact rfl) | (intro _; exact .inl rfl) | (intro _; exact .inr rfl) | (intro q; exact absurd q (Nat.lt_irrefl _)) | (intro q; simp at q; omega))) | (with_reducible refine Fr.via ?_ (by assumption)) | (with_reducible refine Fr.comp ?_ (by assumption)))))
end
end Go.Proofs.YtlnmicddobgppaaGreatDoor
