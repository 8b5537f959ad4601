/-
  Alternatives (layer 8), given what expr does one level deeper. No conditions.
-/
import Derived.Test.YtlnmicddobgppaaGreatDoorParA
namespace Go.Proofs.YtlnmicddobgppaaGreatDoor
set_option linter.unusedSimpArgs false
set_option linter.unusedVariables false
open Go.RowKit

theorem run_tok2 (a b c d e : Value) (w : World) : (Instr.field 41 (.agg #[a, b, c, d, e]) 2).run Tryz.prog w = .ok (.agg #[c, d]) w := by kernel_rfl
section
variable {w : World} {pb : Nat} {vT : Value} {L : List TokV} {s : PS} {deep : Nat} {ex : PS → TE × PS}
set_option maxRecDepth 100000 in
set_option maxHeartbeats 4000000 in
theorem palt_any (h : PAt w pb vT L s) (hd : deep ≤ 1000) (hex : Reads pb vT L 61 ((deep : Int) + 1) ex) :
    Calls Tryz.prog 117 #[.pointer (some ⟨pb, 0, none⟩), .int .i64 (deep : Int)] w fun r w' => ∃ v, r = .returned v ∧ AVal (fun b => b < w.heap.size) w' v (altF L ex s).1 ∧ PAt w' pb vT L (altF L ex s).2 ∧ Fr (fun b => b = pb) w w' := by
  obtain ⟨hd1, s1, hP⟩ : ∃ hd1 s1, altHead L s = (hd1, s1) := ⟨_, _, rfl⟩
  have e0 : altF L ex s = (hd1 (ex (needF L [45, 62] s1)).1, (ex (needF L [45, 62] s1)).2) := by unfold altF; rw [hP]
  rw [e0]
  have hpl := h.blk.lt
  have HP := Lib.hid (And.intro h (And.intro hex hP))
  have HKD := Lib.hid (fun w' (f : Fr Nil w w') => pkind_any (h.fr f))
  have i1 : IntKind.i64.wrap ((deep : Int) + 1) = (deep : Int) + 1 := by rw [IntKind.wrap_i64]; omega
  have hf1 := run_tok1
  have hf2 := run_tok2
  obtain ⟨T, hT⟩ : ∃ T, w.heap.size = T := ⟨_, rfl⟩
  rw [hT] at hpl ⊢
  have hneT : T ≠ pb := by omega
  have hneA : T + 1 ≠ pb := by omega
  obtain ⟨kd, hkd⟩ : ∃ kd, kindP L s = kd := ⟨_, rfl⟩
  rw [hkd] at HKD
  have HK := Lib.hid hkd
  clear h hex hP e0 hkd
  go_enter Tryz.func117, Tryz.ntmps117
  go_upto_region 2 with fail
  obtain ⟨W0, hW0⟩ : ∃ W0, (w.alloc (.cells #[.int .i64 0, .string ⟨#[]⟩, .bool false, .int .u64 0, .slice none 0 0, .int .i64 0, .string ⟨#[]⟩, .bool false, .int .u64 0, .slice none 0 0, .slice none 0 0, .slice none 0 0, .slice none 0 0] 120)).alloc (.cells #[.int .i64 0, .string ⟨#[]⟩, .bool false, .int .u64 0, .slice none 0 0, .int .i64 0, .string ⟨#[]⟩, .bool false, .int .u64 0, .slice none 0 0, .slice none 0 0, .slice none 0 0, .slice none 0 0] 120) = W0 := ⟨_, rfl⟩
  rw [hW0]
  have bA0 : Blk W0 (T + 1) #[.int .i64 0, .string ⟨#[]⟩, .bool false, .int .u64 0, .slice none 0 0, .int .i64 0, .string ⟨#[]⟩, .bool false, .int .u64 0, .slice none 0 0, .slice none 0 0, .slice none 0 0, .slice none 0 0] 120 := by
    rw [← hW0]
    have h := Blk.new (w.alloc (.cells #[.int .i64 0, .string ⟨#[]⟩, .bool false, .int .u64 0, .slice none 0 0, .int .i64 0, .string ⟨#[]⟩, .bool false, .int .u64 0, .slice none 0 0, .slice none 0 0, .slice none 0 0, .slice none 0 0] 120)) #[.int .i64 0, .string ⟨#[]⟩, .bool false, .int .u64 0, .slice none 0 0, .int .i64 0, .string ⟨#[]⟩, .bool false, .int .u64 0, .slice none 0 0, .slice none 0 0, .slice none 0 0, .slice none 0 0] 120
    rw [show (w.alloc (.cells #[.int .i64 0, .string ⟨#[]⟩, .bool false, .int .u64 0, .slice none 0 0, .int .i64 0, .string ⟨#[]⟩, .bool false, .int .u64 0, .slice none 0 0, .slice none 0 0, .slice none 0 0, .slice none 0 0] 120)).heap.size = T + 1 by simp [hT]] at h
    exact h
  have fW0 : Fr Nil w W0 := by rw [← hW0]; (repeat (first | (with_reducible exact Fr.refl _ _) | (with_reducible assumption) | (with_reducible exact Fr.of_nil (by assumption)) | (with_reducible refine Fr.drew ?_) | (with_reducible refine Fr.drewN ?_ _) | (with_reducible refine Fr.alloc ?_ _) | (with_reducible refine Fr.set ?_ _ _ (by first | (intros; omega) | (simp; done) | (simp; omega))) | (with_reducible refine Fr.via ?_ (by assumption)) | (with_reducible refine Fr.comp ?_ (by assumption))))
  have bT0 : Blk W0 T #[.int .i64 0, .string ⟨#[]⟩, .bool false, .int .u64 0, .slice none 0 0, .int .i64 0, .string ⟨#[]⟩, .bool false, .int .u64 0, .slice none 0 0, .slice none 0 0, .slice none 0 0, .slice none 0 0] 120 := by
    rw [← hW0]
    have h := Blk.new w #[.int .i64 0, .string ⟨#[]⟩, .bool false, .int .u64 0, .slice none 0 0, .int .i64 0, .string ⟨#[]⟩, .bool false, .int .u64 0, .slice none 0 0, .slice none 0 0, .slice none 0 0, .slice none 0 0] 120
    rw [hT] at h
    exact ((Fr.refl Nil _).alloc _).blk h (fun q => q)
  clear hW0
  go_wp2_with fail
  refine (HKD.out _ fW0).mono ?_
  rintro e w1 ⟨rfl, f1⟩
  have bA1 := f1.blk bA0 (fun q => q)
  have bT1 := f1.blk bT0 (fun q => q)
  have F1 : Fr (fun b => b = pb) w w1 := (Fr.of_nil fW0).comp (Fr.of_nil f1)
  have h1 := HP.out.1.fr (fW0.comp f1)
  have Ac1 := bA1.cell
  have Af1 := bA1.free
  have Al1 := bA1.lt
  clear bA0 bT0 f1 fW0 HKD
  by_cases hk2 : kd = 2
  · subst hk2
    have hH := HP.out.2.2
    unfold altHead at hH
    rw [if_pos HK.out] at hH
    obtain ⟨tk, st, hts⟩ : ∃ tk st, tokenF L 2 s = (tk, st) := ⟨_, _, rfl⟩
    obtain ⟨ns, s2, hns⟩ : ∃ ns s2, namesF L (fuelP L) false [] st = (ns, s2) := ⟨_, _, rfl⟩
    simp only [hts, hns] at hH
    injection hH with hH1 hH2
    subst hH1 hH2
    have HTS := Lib.hid (And.intro hts hns)
    clear hts hns
    go_wp2_with fail
    refine (ptoken_any 2 (by decide) (HP.out.1.keep (Fr.trans F1 (S' := fun b => b = T + 1) (by (repeat (first | (with_reducible exact Fr.refl _ _) | (with_reducible assumption) | (with_reducible exact Fr.of_nil (by assumption)) | (with_reducible refine Fr.drew ?_) | (with_reducible refine Fr.drewN ?_ _) | (with_reducible refine Fr.alloc ?_ _) | (with_reducible refine Fr.set ?_ _ _ (by first | (intro _; exact rfl) | (intro _; exact .inl rfl) | (intro _; exact .inr rfl) | (intro q; exact absurd q (Nat.lt_irrefl _)) | (intro q; simp at q; omega))) | (with_reducible refine Fr.via ?_ (by assumption)) | (with_reducible refine Fr.comp ?_ (by assumption))))) (fun b hb q => by have q' : b = T + 1 := q; omega)) h1 (S := fun b => b = T + 1) (by (repeat (first | (with_reducible exact Fr.refl _ _) | (with_reducible assumption) | (with_reducible exact Fr.of_nil (by assumption)) | (with_reducible refine Fr.drew ?_) | (with_reducible refine Fr.drewN ?_ _) | (with_reducible refine Fr.alloc ?_ _) | (with_reducible refine Fr.set ?_ _ _ (by first | (intro _; exact rfl) | (intro _; exact .inl rfl) | (intro _; exact .inr rfl) | (intro q; exact absurd q (Nat.lt_irrefl _)) | (intro q; simp at q; omega))) | (with_reducible refine Fr.via ?_ (by assumption)) | (with_reducible refine Fr.comp ?_ (by assumption))))) (fun q => hneA q.symm))).mono ?_
    rw [HTS.out.1]
    rintro e w2 ⟨rfl, h2, f2⟩
    have F2 : Fr (fun b => b = pb) w w2 := Fr.comp (Fr.trans F1 (S' := fun b => b = T + 1) (by (repeat (first | (with_reducible exact Fr.refl _ _) | (with_reducible assumption) | (with_reducible exact Fr.of_nil (by assumption)) | (with_reducible refine Fr.drew ?_) | (with_reducible refine Fr.drewN ?_ _) | (with_reducible refine Fr.alloc ?_ _) | (with_reducible refine Fr.set ?_ _ _ (by first | (intro _; exact rfl) | (intro _; exact .inl rfl) | (intro _; exact .inr rfl) | (intro q; exact absurd q (Nat.lt_irrefl _)) | (intro q; simp at q; omega))) | (with_reducible refine Fr.via ?_ (by assumption)) | (with_reducible refine Fr.comp ?_ (by assumption))))) (fun b hb q => by have q' : b = T + 1 := q; omega)) f2
    have bA2 : Blk w2 (T + 1) #[.int .i64 0, .string ⟨#[]⟩, .bool false, .int .u64 0, .slice none 0 0, .int .i64 0, .string ⟨#[]⟩, .bool false, .int .u64 0, .slice none 0 0, .slice none 0 0, .slice none 0 0, .slice none 0 0] 120 := f2.blk (by (unfold Blk; simp (disch := first | omega | (simp; done) | (simp; omega)) only [hp_drew, hp_drewN, hp_alloc, hp_other, hp_same, hp_new, upd_cells, Option.map_some, (bA1).eq]) <;> simp) hneA
    have bT2 : Blk w2 T #[.int .i64 0, .string ⟨#[]⟩, .bool false, .int .u64 0, .slice none 0 0, .int .i64 0, .string ⟨#[]⟩, .bool false, .int .u64 0, .slice none 0 0, .slice none 0 0, .slice none 0 0, .slice none 0 0] 120 := f2.blk (by (unfold Blk; simp (disch := first | omega | (simp; done) | (simp; omega)) only [hp_drew, hp_drewN, hp_alloc, hp_other, hp_same, hp_new, upd_cells, Option.map_some, (bT1).eq]) <;> simp) hneT
    have Ac2 := bA2.cell
    have Af2 := bA2.free
    have Al2 := bA2.lt
    have HB2 := Lib.hid (And.intro bA2 bT2)
    clear Ac1 Af1 Al1 bA1 bT1 f2
    unfold tokV
    go_wp2_with fail
    refine (pnames_any false (HP.out.1.keep (Fr.trans F2 (S' := fun b => b = T + 1) (by (repeat (first | (with_reducible exact Fr.refl _ _) | (with_reducible assumption) | (with_reducible exact Fr.of_nil (by assumption)) | (with_reducible refine Fr.drew ?_) | (with_reducible refine Fr.drewN ?_ _) | (with_reducible refine Fr.alloc ?_ _) | (with_reducible refine Fr.set ?_ _ _ (by first | (intro _; exact rfl) | (intro _; exact .inl rfl) | (intro _; exact .inr rfl) | (intro q; exact absurd q (Nat.lt_irrefl _)) | (intro q; simp at q; omega))) | (with_reducible refine Fr.via ?_ (by assumption)) | (with_reducible refine Fr.comp ?_ (by assumption))))) (fun b hb q => by have q' : b = T + 1 := q; omega)) h2 (S := fun b => b = T + 1) (by (repeat (first | (with_reducible exact Fr.refl _ _) | (with_reducible assumption) | (with_reducible exact Fr.of_nil (by assumption)) | (with_reducible refine Fr.drew ?_) | (with_reducible refine Fr.drewN ?_ _) | (with_reducible refine Fr.alloc ?_ _) | (with_reducible refine Fr.set ?_ _ _ (by first | (intro _; exact rfl) | (intro _; exact .inl rfl) | (intro _; exact .inr rfl) | (intro q; exact absurd q (Nat.lt_irrefl _)) | (intro q; simp at q; omega))) | (with_reducible refine Fr.via ?_ (by assumption)) | (with_reducible refine Fr.comp ?_ (by assumption))))) (fun q => hneA q.symm))).mono ?_
    rw [HTS.out.2]
    rintro e w3 ⟨vl, rfl, hl, h3, f3⟩
    have F3 : Fr (fun b => b = pb) w w3 := Fr.comp (Fr.trans F2 (S' := fun b => b = T + 1) (by (repeat (first | (with_reducible exact Fr.refl _ _) | (with_reducible assumption) | (with_reducible exact Fr.of_nil (by assumption)) | (with_reducible refine Fr.drew ?_) | (with_reducible refine Fr.drewN ?_ _) | (with_reducible refine Fr.alloc ?_ _) | (with_reducible refine Fr.set ?_ _ _ (by first | (intro _; exact rfl) | (intro _; exact .inl rfl) | (intro _; exact .inr rfl) | (intro q; exact absurd q (Nat.lt_irrefl _)) | (intro q; simp at q; omega))) | (with_reducible refine Fr.via ?_ (by assumption)) | (with_reducible refine Fr.comp ?_ (by assumption))))) (fun b hb q => by have q' : b = T + 1 := q; omega)) f3
    have bA3 : Blk w3 (T + 1) #[.int .i64 0, .string ⟨tk.text.toArray⟩, .bool false, .int .u64 0, .slice none 0 0, .int .i64 0, .string ⟨#[]⟩, .bool false, .int .u64 0, .slice none 0 0, .slice none 0 0, .slice none 0 0, .slice none 0 0] 120 := f3.blk (by (unfold Blk; simp (disch := first | omega | (simp; done) | (simp; omega)) only [hp_drew, hp_drewN, hp_alloc, hp_other, hp_same, hp_new, upd_cells, Option.map_some, (bA2).eq]) <;> simp) hneA
    have bT3 : Blk w3 T #[.int .i64 0, .string ⟨#[]⟩, .bool false, .int .u64 0, .slice none 0 0, .int .i64 0, .string ⟨#[]⟩, .bool false, .int .u64 0, .slice none 0 0, .slice none 0 0, .slice none 0 0, .slice none 0 0] 120 := f3.blk (by (unfold Blk; simp (disch := first | omega | (simp; done) | (simp; omega)) only [hp_drew, hp_drewN, hp_alloc, hp_other, hp_same, hp_new, upd_cells, Option.map_some, (bT2).eq]) <;> simp) hneT
    have Ac3 := bA3.cell
    have Af3 := bA3.free
    have Al3 := bA3.lt
    have HB3 := Lib.hid (And.intro bA3 bT3)
    obtain ⟨av, cv, rfl⟩ := RowC.shape hl
    have hl' : RowS (fun b => b < T + 2) w3 (.slice av ns.length cv) ns := RowC.mono hl (by decide) (fun b _ q => by have h5 := Al2; simp; omega)
    have HL := Lib.hid (And.intro hl' F3)
    clear Ac2 Af2 Al2 bA2 bT2 f3 hl hl'
    go_wp2_with fail
    refine (pneed_any [45, 62] (HP.out.1.keep (Fr.trans F3 (S' := fun b => b = T + 1) (by (repeat (first | (with_reducible exact Fr.refl _ _) | (with_reducible assumption) | (with_reducible exact Fr.of_nil (by assumption)) | (with_reducible refine Fr.drew ?_) | (with_reducible refine Fr.drewN ?_ _) | (with_reducible refine Fr.alloc ?_ _) | (with_reducible refine Fr.set ?_ _ _ (by first | (intro _; exact rfl) | (intro _; exact .inl rfl) | (intro _; exact .inr rfl) | (intro q; exact absurd q (Nat.lt_irrefl _)) | (intro q; simp at q; omega))) | (with_reducible refine Fr.via ?_ (by assumption)) | (with_reducible refine Fr.comp ?_ (by assumption))))) (fun b hb q => by have q' : b = T + 1 := q; omega)) h3 (S := fun b => b = T + 1) (by (repeat (first | (with_reducible exact Fr.refl _ _) | (with_reducible assumption) | (with_reducible exact Fr.of_nil (by assumption)) | (with_reducible refine Fr.drew ?_) | (with_reducible refine Fr.drewN ?_ _) | (with_reducible refine Fr.alloc ?_ _) | (with_reducible refine Fr.set ?_ _ _ (by first | (intro _; exact rfl) | (intro _; exact .inl rfl) | (intro _; exact .inr rfl) | (intro q; exact absurd q (Nat.lt_irrefl _)) | (intro q; simp at q; omega))) | (with_reducible refine Fr.via ?_ (by assumption)) | (with_reducible refine Fr.comp ?_ (by assumption))))) (fun q => hneA q.symm))).mono ?_
    rintro e w4 ⟨rfl, h4, f4⟩
    have HG3 := Lib.hid f4
    have F4 : Fr (fun b => b = pb) w w4 := Fr.comp (Fr.trans F3 (S' := fun b => b = T + 1) (by (repeat (first | (with_reducible exact Fr.refl _ _) | (with_reducible assumption) | (with_reducible exact Fr.of_nil (by assumption)) | (with_reducible refine Fr.drew ?_) | (with_reducible refine Fr.drewN ?_ _) | (with_reducible refine Fr.alloc ?_ _) | (with_reducible refine Fr.set ?_ _ _ (by first | (intro _; exact rfl) | (intro _; exact .inl rfl) | (intro _; exact .inr rfl) | (intro q; exact absurd q (Nat.lt_irrefl _)) | (intro q; simp at q; omega))) | (with_reducible refine Fr.via ?_ (by assumption)) | (with_reducible refine Fr.comp ?_ (by assumption))))) (fun b hb q => by have q' : b = T + 1 := q; omega)) f4
    have bA4 : Blk w4 (T + 1) #[.int .i64 0, .string ⟨tk.text.toArray⟩, .bool false, .int .u64 0, .slice av ns.length cv, .int .i64 0, .string ⟨#[]⟩, .bool false, .int .u64 0, .slice none 0 0, .slice none 0 0, .slice none 0 0, .slice none 0 0] 120 := f4.blk (by (unfold Blk; simp (disch := first | omega | (simp; done) | (simp; omega)) only [hp_drew, hp_drewN, hp_alloc, hp_other, hp_same, hp_new, upd_cells, Option.map_some, (bA3).eq]) <;> simp) hneA
    have bT4 : Blk w4 T #[.int .i64 0, .string ⟨#[]⟩, .bool false, .int .u64 0, .slice none 0 0, .int .i64 0, .string ⟨#[]⟩, .bool false, .int .u64 0, .slice none 0 0, .slice none 0 0, .slice none 0 0, .slice none 0 0] 120 := f4.blk (by (unfold Blk; simp (disch := first | omega | (simp; done) | (simp; omega)) only [hp_drew, hp_drewN, hp_alloc, hp_other, hp_same, hp_new, upd_cells, Option.map_some, (bT3).eq]) <;> simp) hneT
    have Ac4 := bA4.cell
    have Af4 := bA4.free
    have Al4 := bA4.lt
    have HB4 := Lib.hid (And.intro bA4 bT4)
    clear Ac3 Af3 Al3 bA3 bT3
    clear f4
    go_wp2_with fail
    refine (HP.out.2.1 _ _ h4).mono ?_
    rintro e w5 ⟨ve, rfl, he, h5, f5⟩
    have HG5 := Lib.hid f5
    have F5 : Fr (fun b => b = pb) w w5 := F4.comp f5
    have bA5 : Blk w5 (T + 1) #[.int .i64 0, .string ⟨tk.text.toArray⟩, .bool false, .int .u64 0, .slice av ns.length cv, .int .i64 0, .string ⟨#[]⟩, .bool false, .int .u64 0, .slice none 0 0, .slice none 0 0, .slice none 0 0, .slice none 0 0] 120 := f5.blk bA4 hneA
    have bT5 : Blk w5 T #[.int .i64 0, .string ⟨#[]⟩, .bool false, .int .u64 0, .slice none 0 0, .int .i64 0, .string ⟨#[]⟩, .bool false, .int .u64 0, .slice none 0 0, .slice none 0 0, .slice none 0 0, .slice none 0 0] 120 := f5.blk bT4 hneT
    obtain ⟨cs, rfl, hE⟩ := he
    obtain ⟨k, nm, fl, bi, a0, n0, c0, a1, n1, c1, a2, n2, c2, a3, n3, c3, rfl⟩ := hE.form
    have hsz := Al4
    have Ac := bA5.cell
    have Af := bA5.free
    have Al := bA5.lt
    have Tc := bT5.cell
    have Tf := bT5.free
    have Tl := bT5.lt
    have HE := Lib.hid (And.intro h5 (And.intro hE F5))
    have fin : Hid (∀ wf, Fr (fun b => b = T ∨ b = T + 1) w5 wf → ∃ v', Ending.returned (.agg (.int .i64 0 :: .string ⟨tk.text.toArray⟩ :: .bool false :: .int .u64 0 :: .slice av ns.length cv :: eC k nm fl bi a0 n0 c0 a1 n1 c1 a2 n2 c2 a3 n3 c3).toArray) = .returned v' ∧ AVal (fun b => b < T) wf v' (.mk 0 tk.text false 0 ns (ex (needF L [45, 62] s2)).1) ∧ PAt wf pb vT L (ex (needF L [45, 62] s2)).2 ∧ Fr (fun b => b = pb) w wf) := fun wf g => by
      have FF : Fr (fun b => b = pb) w wf := HE.out.2.2.trans g (fun b hb q => by rcases q with q | q <;> omega)
      refine ⟨_, rfl, ⟨_, _, rfl, ?_, (HE.out.2.1.fr g (fun b q => by rcases q with q | q <;> omega)).mono (fun b _ q => by omega)⟩, HP.out.1.keep FF HE.out.1 g (fun q => by rcases q with q | q; exact hneT q.symm; exact hneA q.symm), FF⟩
      exact RowC.mono (RowS.fr (RowS.fr (RowS.fr (RowS.fr HL.out.1 (S := fun b => b = T + 1) (by (repeat (first | (with_reducible exact Fr.refl _ _) | (with_reducible assumption) | (with_reducible exact Fr.of_nil (by assumption)) | (with_reducible refine Fr.drew ?_) | (with_reducible refine Fr.drewN ?_ _) | (with_reducible refine Fr.alloc ?_ _) | (with_reducible refine Fr.set ?_ _ _ (by first | (intro _; exact rfl) | (intro _; exact .inl rfl) | (intro _; exact .inr rfl) | (intro q; exact absurd q (Nat.lt_irrefl _)) | (intro q; simp at q; omega))) | (with_reducible refine Fr.via ?_ (by assumption)) | (with_reducible refine Fr.comp ?_ (by assumption))))) (fun b q => by have q' : b = T + 1 := q; omega)) HG3.out (fun b q => by have q' : b = pb := q; omega)) HG5.out (fun b q => by have q' : b = pb := q; omega)) g (fun b q => by rcases q with q | q <;> omega)) (by decide) (fun b _ q => by omega)
    clear h5 f5 bA5 bT5 bA4 bT4 Ac4 Af4 Al4 hE F5 h4
    unfold eC
    go_wp2
    (try simp only [Exit.inBlock, Exit.then])
    refine bodyPost_ret (v := .agg (.int .i64 0 :: .string ⟨tk.text.toArray⟩ :: .bool false :: .int .u64 0 :: .slice av ns.length cv :: eC k nm fl bi a0 n0 c0 a1 n1 c1 a2 n2 c2 a3 n3 c3).toArray) (by simp [results, Tryz.results117, go_sem, eC, *]) rfl ?_
    exact fin.out _ (by (repeat (first | (with_reducible exact Fr.refl _ _) | (with_reducible assumption) | (with_reducible exact Fr.of_nil (by assumption)) | (with_reducible refine Fr.drew ?_) | (with_reducible refine Fr.drewN ?_ _) | (with_reducible refine Fr.alloc ?_ _) | (with_reducible refine Fr.set ?_ _ _ (by first | (intro _; exact rfl) | (intro _; exact .inl rfl) | (intro _; exact .inr rfl) | (intro q; exact absurd q (Nat.lt_irrefl _)) | (intro q; simp at q; omega))) | (with_reducible refine Fr.via ?_ (by assumption)) | (with_reducible refine Fr.comp ?_ (by assumption)))))
  by_cases hk3 : kd = 3
  · subst hk3
    have hH := HP.out.2.2
    unfold altHead at hH
    rw [if_neg (by rw [HK.out]; decide), if_pos HK.out] at hH
    obtain ⟨tk, st, hts⟩ : ∃ tk st, tokenF L 3 s = (tk, st) := ⟨_, _, rfl⟩
    simp only [hts] at hH
    injection hH with hH1 hH2
    subst hH1 hH2
    have HTS := Lib.hid hts
    clear hts
    go_wp2_with fail
    refine (ptoken_any 3 (by decide) (HP.out.1.keep (Fr.trans F1 (S' := fun b => b = T + 1) (by (repeat (first | (with_reducible exact Fr.refl _ _) | (with_reducible assumption) | (with_reducible exact Fr.of_nil (by assumption)) | (with_reducible refine Fr.drew ?_) | (with_reducible refine Fr.drewN ?_ _) | (with_reducible refine Fr.alloc ?_ _) | (with_reducible refine Fr.set ?_ _ _ (by first | (intro _; exact rfl) | (intro _; exact .inl rfl) | (intro _; exact .inr rfl) | (intro q; exact absurd q (Nat.lt_irrefl _)) | (intro q; simp at q; omega))) | (with_reducible refine Fr.via ?_ (by assumption)) | (with_reducible refine Fr.comp ?_ (by assumption))))) (fun b hb q => by have q' : b = T + 1 := q; omega)) h1 (S := fun b => b = T + 1) (by (repeat (first | (with_reducible exact Fr.refl _ _) | (with_reducible assumption) | (with_reducible exact Fr.of_nil (by assumption)) | (with_reducible refine Fr.drew ?_) | (with_reducible refine Fr.drewN ?_ _) | (with_reducible refine Fr.alloc ?_ _) | (with_reducible refine Fr.set ?_ _ _ (by first | (intro _; exact rfl) | (intro _; exact .inl rfl) | (intro _; exact .inr rfl) | (intro q; exact absurd q (Nat.lt_irrefl _)) | (intro q; simp at q; omega))) | (with_reducible refine Fr.via ?_ (by assumption)) | (with_reducible refine Fr.comp ?_ (by assumption))))) (fun q => hneA q.symm))).mono ?_
    rw [HTS.out]
    rintro e w2 ⟨rfl, h2, f2⟩
    have F2 : Fr (fun b => b = pb) w w2 := Fr.comp (Fr.trans F1 (S' := fun b => b = T + 1) (by (repeat (first | (with_reducible exact Fr.refl _ _) | (with_reducible assumption) | (with_reducible exact Fr.of_nil (by assumption)) | (with_reducible refine Fr.drew ?_) | (with_reducible refine Fr.drewN ?_ _) | (with_reducible refine Fr.alloc ?_ _) | (with_reducible refine Fr.set ?_ _ _ (by first | (intro _; exact rfl) | (intro _; exact .inl rfl) | (intro _; exact .inr rfl) | (intro q; exact absurd q (Nat.lt_irrefl _)) | (intro q; simp at q; omega))) | (with_reducible refine Fr.via ?_ (by assumption)) | (with_reducible refine Fr.comp ?_ (by assumption))))) (fun b hb q => by have q' : b = T + 1 := q; omega)) f2
    have bA2 : Blk w2 (T + 1) #[.int .i64 1, .string ⟨#[]⟩, .bool false, .int .u64 0, .slice none 0 0, .int .i64 0, .string ⟨#[]⟩, .bool false, .int .u64 0, .slice none 0 0, .slice none 0 0, .slice none 0 0, .slice none 0 0] 120 := f2.blk (by (unfold Blk; simp (disch := first | omega | (simp; done) | (simp; omega)) only [hp_drew, hp_drewN, hp_alloc, hp_other, hp_same, hp_new, upd_cells, Option.map_some, (bA1).eq]) <;> simp) hneA
    have bT2 : Blk w2 T #[.int .i64 0, .string ⟨#[]⟩, .bool false, .int .u64 0, .slice none 0 0, .int .i64 0, .string ⟨#[]⟩, .bool false, .int .u64 0, .slice none 0 0, .slice none 0 0, .slice none 0 0, .slice none 0 0] 120 := f2.blk (by (unfold Blk; simp (disch := first | omega | (simp; done) | (simp; omega)) only [hp_drew, hp_drewN, hp_alloc, hp_other, hp_same, hp_new, upd_cells, Option.map_some, (bT1).eq]) <;> simp) hneT
    have Ac2 := bA2.cell
    have Af2 := bA2.free
    have Al2 := bA2.lt
    have HB2 := Lib.hid (And.intro bA2 bT2)
    clear Ac1 Af1 Al1 bA1 bT1 f2
    unfold tokV
    go_wp2_with fail
    refine (pneed_any [45, 62] (HP.out.1.keep (Fr.trans F2 (S' := fun b => b = T + 1) (by (repeat (first | (with_reducible exact Fr.refl _ _) | (with_reducible assumption) | (with_reducible exact Fr.of_nil (by assumption)) | (with_reducible refine Fr.drew ?_) | (with_reducible refine Fr.drewN ?_ _) | (with_reducible refine Fr.alloc ?_ _) | (with_reducible refine Fr.set ?_ _ _ (by first | (intro _; exact rfl) | (intro _; exact .inl rfl) | (intro _; exact .inr rfl) | (intro q; exact absurd q (Nat.lt_irrefl _)) | (intro q; simp at q; omega))) | (with_reducible refine Fr.via ?_ (by assumption)) | (with_reducible refine Fr.comp ?_ (by assumption))))) (fun b hb q => by have q' : b = T + 1 := q; omega)) h2 (S := fun b => b = T + 1) (by (repeat (first | (with_reducible exact Fr.refl _ _) | (with_reducible assumption) | (with_reducible exact Fr.of_nil (by assumption)) | (with_reducible refine Fr.drew ?_) | (with_reducible refine Fr.drewN ?_ _) | (with_reducible refine Fr.alloc ?_ _) | (with_reducible refine Fr.set ?_ _ _ (by first | (intro _; exact rfl) | (intro _; exact .inl rfl) | (intro _; exact .inr rfl) | (intro q; exact absurd q (Nat.lt_irrefl _)) | (intro q; simp at q; omega))) | (with_reducible refine Fr.via ?_ (by assumption)) | (with_reducible refine Fr.comp ?_ (by assumption))))) (fun q => hneA q.symm))).mono ?_
    rintro e w3 ⟨rfl, h3, f3⟩
    have F3 : Fr (fun b => b = pb) w w3 := Fr.comp (Fr.trans F2 (S' := fun b => b = T + 1) (by (repeat (first | (with_reducible exact Fr.refl _ _) | (with_reducible assumption) | (with_reducible exact Fr.of_nil (by assumption)) | (with_reducible refine Fr.drew ?_) | (with_reducible refine Fr.drewN ?_ _) | (with_reducible refine Fr.alloc ?_ _) | (with_reducible refine Fr.set ?_ _ _ (by first | (intro _; exact rfl) | (intro _; exact .inl rfl) | (intro _; exact .inr rfl) | (intro q; exact absurd q (Nat.lt_irrefl _)) | (intro q; simp at q; omega))) | (with_reducible refine Fr.via ?_ (by assumption)) | (with_reducible refine Fr.comp ?_ (by assumption))))) (fun b hb q => by have q' : b = T + 1 := q; omega)) f3
    have bA3 : Blk w3 (T + 1) #[.int .i64 1, .string ⟨#[]⟩, .bool tk.flt, .int .u64 (tk.bits : Int), .slice none 0 0, .int .i64 0, .string ⟨#[]⟩, .bool false, .int .u64 0, .slice none 0 0, .slice none 0 0, .slice none 0 0, .slice none 0 0] 120 := f3.blk (by (unfold Blk; simp (disch := first | omega | (simp; done) | (simp; omega)) only [hp_drew, hp_drewN, hp_alloc, hp_other, hp_same, hp_new, upd_cells, Option.map_some, (bA2).eq]) <;> simp) hneA
    have bT3 : Blk w3 T #[.int .i64 0, .string ⟨#[]⟩, .bool false, .int .u64 0, .slice none 0 0, .int .i64 0, .string ⟨#[]⟩, .bool false, .int .u64 0, .slice none 0 0, .slice none 0 0, .slice none 0 0, .slice none 0 0] 120 := f3.blk (by (unfold Blk; simp (disch := first | omega | (simp; done) | (simp; omega)) only [hp_drew, hp_drewN, hp_alloc, hp_other, hp_same, hp_new, upd_cells, Option.map_some, (bT2).eq]) <;> simp) hneT
    have Ac3 := bA3.cell
    have Af3 := bA3.free
    have Al3 := bA3.lt
    have HB3 := Lib.hid (And.intro bA3 bT3)
    clear Ac2 Af2 Al2 bA2 bT2
    clear f3
    go_wp2_with fail
    refine (HP.out.2.1 _ _ h3).mono ?_
    rintro e w4 ⟨ve, rfl, he, h4, f4⟩
    have F4 : Fr (fun b => b = pb) w w4 := F3.comp f4
    have bA4 : Blk w4 (T + 1) #[.int .i64 1, .string ⟨#[]⟩, .bool tk.flt, .int .u64 (tk.bits : Int), .slice none 0 0, .int .i64 0, .string ⟨#[]⟩, .bool false, .int .u64 0, .slice none 0 0, .slice none 0 0, .slice none 0 0, .slice none 0 0] 120 := f4.blk bA3 hneA
    have bT4 : Blk w4 T #[.int .i64 0, .string ⟨#[]⟩, .bool false, .int .u64 0, .slice none 0 0, .int .i64 0, .string ⟨#[]⟩, .bool false, .int .u64 0, .slice none 0 0, .slice none 0 0, .slice none 0 0, .slice none 0 0] 120 := f4.blk bT3 hneT
    obtain ⟨cs, rfl, hE⟩ := he
    obtain ⟨k, nm, fl, bi, a0, n0, c0, a1, n1, c1, a2, n2, c2, a3, n3, c3, rfl⟩ := hE.form
    have hsz := Al3
    have Ac := bA4.cell
    have Af := bA4.free
    have Al := bA4.lt
    have Tc := bT4.cell
    have Tf := bT4.free
    have Tl := bT4.lt
    have HE := Lib.hid (And.intro h4 (And.intro hE F4))
    have fin : Hid (∀ wf, Fr (fun b => b = T ∨ b = T + 1) w4 wf → ∃ v', Ending.returned (.agg (.int .i64 1 :: .string ⟨#[]⟩ :: .bool tk.flt :: .int .u64 (tk.bits : Int) :: .slice none 0 0 :: eC k nm fl bi a0 n0 c0 a1 n1 c1 a2 n2 c2 a3 n3 c3).toArray) = .returned v' ∧ AVal (fun b => b < T) wf v' (.mk 1 [] tk.flt tk.bits [] (ex (needF L [45, 62] st)).1) ∧ PAt wf pb vT L (ex (needF L [45, 62] st)).2 ∧ Fr (fun b => b = pb) w wf) := fun wf g => by
      have FF : Fr (fun b => b = pb) w wf := HE.out.2.2.trans g (fun b hb q => by rcases q with q | q <;> omega)
      refine ⟨_, rfl, ⟨_, _, rfl, ?_, (HE.out.2.1.fr g (fun b q => by rcases q with q | q <;> omega)).mono (fun b _ q => by omega)⟩, HP.out.1.keep FF HE.out.1 g (fun q => by rcases q with q | q; exact hneT q.symm; exact hneA q.symm), FF⟩
      exact RowC.nil
    clear h4 f4 bA4 bT4 bA3 bT3 Ac3 Af3 Al3 hE F4 h3
    unfold eC
    go_wp2
    (try simp only [Exit.inBlock, Exit.then])
    refine bodyPost_ret (v := .agg (.int .i64 1 :: .string ⟨#[]⟩ :: .bool tk.flt :: .int .u64 (tk.bits : Int) :: .slice none 0 0 :: eC k nm fl bi a0 n0 c0 a1 n1 c1 a2 n2 c2 a3 n3 c3).toArray) (by simp [results, Tryz.results117, go_sem, eC, *]) rfl ?_
    exact fin.out _ (by (repeat (first | (with_reducible exact Fr.refl _ _) | (with_reducible assumption) | (with_reducible exact Fr.of_nil (by assumption)) | (with_reducible refine Fr.drew ?_) | (with_reducible refine Fr.drewN ?_ _) | (with_reducible refine Fr.alloc ?_ _) | (with_reducible refine Fr.set ?_ _ _ (by first | (intro _; exact rfl) | (intro _; exact .inl rfl) | (intro _; exact .inr rfl) | (intro q; exact absurd q (Nat.lt_irrefl _)) | (intro q; simp at q; omega))) | (with_reducible refine Fr.via ?_ (by assumption)) | (with_reducible refine Fr.comp ?_ (by assumption)))))
  have hH := HP.out.2.2
  unfold altHead at hH
  rw [if_neg (by rw [HK.out]; exact hk2), if_neg (by rw [HK.out]; exact hk3)] at hH
  obtain ⟨tk, st, hts⟩ : ∃ tk st, tokenF L 1 s = (tk, st) := ⟨_, _, rfl⟩
  simp only [hts] at hH
  injection hH with hH1 hH2
  subst hH1 hH2
  have HTS := Lib.hid hts
  have d1 := decide_eq_false hk2
  have d2 := decide_eq_false hk3
  have d3 : (kd == 2) = false := by simpa using hk2
  have d4 : (kd == 3) = false := by simpa using hk3
  clear hts
  go_wp2_with fail
  refine (ptoken_any 1 (by decide) (HP.out.1.keep (Fr.trans F1 (S' := fun b => b = T + 1) (by (repeat (first | (with_reducible exact Fr.refl _ _) | (with_reducible assumption) | (with_reducible exact Fr.of_nil (by assumption)) | (with_reducible refine Fr.drew ?_) | (with_reducible refine Fr.drewN ?_ _) | (with_reducible refine Fr.alloc ?_ _) | (with_reducible refine Fr.set ?_ _ _ (by first | (intro _; exact rfl) | (intro _; exact .inl rfl) | (intro _; exact .inr rfl) | (intro q; exact absurd q (Nat.lt_irrefl _)) | (intro q; simp at q; omega))) | (with_reducible refine Fr.via ?_ (by assumption)) | (with_reducible refine Fr.comp ?_ (by assumption))))) (fun b hb q => by have q' : b = T + 1 := q; omega)) h1 (S := fun b => b = T + 1) (by (repeat (first | (with_reducible exact Fr.refl _ _) | (with_reducible assumption) | (with_reducible exact Fr.of_nil (by assumption)) | (with_reducible refine Fr.drew ?_) | (with_reducible refine Fr.drewN ?_ _) | (with_reducible refine Fr.alloc ?_ _) | (with_reducible refine Fr.set ?_ _ _ (by first | (intro _; exact rfl) | (intro _; exact .inl rfl) | (intro _; exact .inr rfl) | (intro q; exact absurd q (Nat.lt_irrefl _)) | (intro q; simp at q; omega))) | (with_reducible refine Fr.via ?_ (by assumption)) | (with_reducible refine Fr.comp ?_ (by assumption))))) (fun q => hneA q.symm))).mono ?_
  rw [HTS.out]
  rintro e w2 ⟨rfl, h2, f2⟩
  have F2 : Fr (fun b => b = pb) w w2 := Fr.comp (Fr.trans F1 (S' := fun b => b = T + 1) (by (repeat (first | (with_reducible exact Fr.refl _ _) | (with_reducible assumption) | (with_reducible exact Fr.of_nil (by assumption)) | (with_reducible refine Fr.drew ?_) | (with_reducible refine Fr.drewN ?_ _) | (with_reducible refine Fr.alloc ?_ _) | (with_reducible refine Fr.set ?_ _ _ (by first | (intro _; exact rfl) | (intro _; exact .inl rfl) | (intro _; exact .inr rfl) | (intro q; exact absurd q (Nat.lt_irrefl _)) | (intro q; simp at q; omega))) | (with_reducible refine Fr.via ?_ (by assumption)) | (with_reducible refine Fr.comp ?_ (by assumption))))) (fun b hb q => by have q' : b = T + 1 := q; omega)) f2
  have bA2 : Blk w2 (T + 1) #[.int .i64 2, .string ⟨#[]⟩, .bool false, .int .u64 0, .slice none 0 0, .int .i64 0, .string ⟨#[]⟩, .bool false, .int .u64 0, .slice none 0 0, .slice none 0 0, .slice none 0 0, .slice none 0 0] 120 := f2.blk (by (unfold Blk; simp (disch := first | omega | (simp; done) | (simp; omega)) only [hp_drew, hp_drewN, hp_alloc, hp_other, hp_same, hp_new, upd_cells, Option.map_some, (bA1).eq]) <;> simp) hneA
  have bT2 : Blk w2 T #[.int .i64 0, .string ⟨#[]⟩, .bool false, .int .u64 0, .slice none 0 0, .int .i64 0, .string ⟨#[]⟩, .bool false, .int .u64 0, .slice none 0 0, .slice none 0 0, .slice none 0 0, .slice none 0 0] 120 := f2.blk (by (unfold Blk; simp (disch := first | omega | (simp; done) | (simp; omega)) only [hp_drew, hp_drewN, hp_alloc, hp_other, hp_same, hp_new, upd_cells, Option.map_some, (bT1).eq]) <;> simp) hneT
  have Ac2 := bA2.cell
  have Af2 := bA2.free
  have Al2 := bA2.lt
  have HB2 := Lib.hid (And.intro bA2 bT2)
  clear Ac1 Af1 Al1 bA1 bT1 f2
  unfold tokV
  go_wp2_with fail
  refine (pneed_any [45, 62] (HP.out.1.keep (Fr.trans F2 (S' := fun b => b = T + 1) (by (repeat (first | (with_reducible exact Fr.refl _ _) | (with_reducible assumption) | (with_reducible exact Fr.of_nil (by assumption)) | (with_reducible refine Fr.drew ?_) | (with_reducible refine Fr.drewN ?_ _) | (with_reducible refine Fr.alloc ?_ _) | (with_reducible refine Fr.set ?_ _ _ (by first | (intro _; exact rfl) | (intro _; exact .inl rfl) | (intro _; exact .inr rfl) | (intro q; exact absurd q (Nat.lt_irrefl _)) | (intro q; simp at q; omega))) | (with_reducible refine Fr.via ?_ (by assumption)) | (with_reducible refine Fr.comp ?_ (by assumption))))) (fun b hb q => by have q' : b = T + 1 := q; omega)) h2 (S := fun b => b = T + 1) (by (repeat (first | (with_reducible exact Fr.refl _ _) | (with_reducible assumption) | (with_reducible exact Fr.of_nil (by assumption)) | (with_reducible refine Fr.drew ?_) | (with_reducible refine Fr.drewN ?_ _) | (with_reducible refine Fr.alloc ?_ _) | (with_reducible refine Fr.set ?_ _ _ (by first | (intro _; exact rfl) | (intro _; exact .inl rfl) | (intro _; exact .inr rfl) | (intro q; exact absurd q (Nat.lt_irrefl _)) | (intro q; simp at q; omega))) | (with_reducible refine Fr.via ?_ (by assumption)) | (with_reducible refine Fr.comp ?_ (by assumption))))) (fun q => hneA q.symm))).mono ?_
  rintro e w3 ⟨rfl, h3, f3⟩
  have F3 : Fr (fun b => b = pb) w w3 := Fr.comp (Fr.trans F2 (S' := fun b => b = T + 1) (by (repeat (first | (with_reducible exact Fr.refl _ _) | (with_reducible assumption) | (with_reducible exact Fr.of_nil (by assumption)) | (with_reducible refine Fr.drew ?_) | (with_reducible refine Fr.drewN ?_ _) | (with_reducible refine Fr.alloc ?_ _) | (with_reducible refine Fr.set ?_ _ _ (by first | (intro _; exact rfl) | (intro _; exact .inl rfl) | (intro _; exact .inr rfl) | (intro q; exact absurd q (Nat.lt_irrefl _)) | (intro q; simp at q; omega))) | (with_reducible refine Fr.via ?_ (by assumption)) | (with_reducible refine Fr.comp ?_ (by assumption))))) (fun b hb q => by have q' : b = T + 1 := q; omega)) f3
  have bA3 : Blk w3 (T + 1) #[.int .i64 2, .string ⟨tk.text.toArray⟩, .bool false, .int .u64 0, .slice none 0 0, .int .i64 0, .string ⟨#[]⟩, .bool false, .int .u64 0, .slice none 0 0, .slice none 0 0, .slice none 0 0, .slice none 0 0] 120 := f3.blk (by (unfold Blk; simp (disch := first | omega | (simp; done) | (simp; omega)) only [hp_drew, hp_drewN, hp_alloc, hp_other, hp_same, hp_new, upd_cells, Option.map_some, (bA2).eq]) <;> simp) hneA
  have bT3 : Blk w3 T #[.int .i64 0, .string ⟨#[]⟩, .bool false, .int .u64 0, .slice none 0 0, .int .i64 0, .string ⟨#[]⟩, .bool false, .int .u64 0, .slice none 0 0, .slice none 0 0, .slice none 0 0, .slice none 0 0] 120 := f3.blk (by (unfold Blk; simp (disch := first | omega | (simp; done) | (simp; omega)) only [hp_drew, hp_drewN, hp_alloc, hp_other, hp_same, hp_new, upd_cells, Option.map_some, (bT2).eq]) <;> simp) hneT
  have Ac3 := bA3.cell
  have Af3 := bA3.free
  have Al3 := bA3.lt
  have HB3 := Lib.hid (And.intro bA3 bT3)
  clear Ac2 Af2 Al2 bA2 bT2
  clear f3
  go_wp2_with fail
  refine (HP.out.2.1 _ _ h3).mono ?_
  rintro e w4 ⟨ve, rfl, he, h4, f4⟩
  have F4 : Fr (fun b => b = pb) w w4 := F3.comp f4
  have bA4 : Blk w4 (T + 1) #[.int .i64 2, .string ⟨tk.text.toArray⟩, .bool false, .int .u64 0, .slice none 0 0, .int .i64 0, .string ⟨#[]⟩, .bool false, .int .u64 0, .slice none 0 0, .slice none 0 0, .slice none 0 0, .slice none 0 0] 120 := f4.blk bA3 hneA
  have bT4 : Blk w4 T #[.int .i64 0, .string ⟨#[]⟩, .bool false, .int .u64 0, .slice none 0 0, .int .i64 0, .string ⟨#[]⟩, .bool false, .int .u64 0, .slice none 0 0, .slice none 0 0, .slice none 0 0, .slice none 0 0] 120 := f4.blk bT3 hneT
  obtain ⟨cs, rfl, hE⟩ := he
  obtain ⟨k, nm, fl, bi, a0, n0, c0, a1, n1, c1, a2, n2, c2, a3, n3, c3, rfl⟩ := hE.form
  have hsz := Al3
  have Ac := bA4.cell
  have Af := bA4.free
  have Al := bA4.lt
  have Tc := bT4.cell
  have Tf := bT4.free
  have Tl := bT4.lt
  have HE := Lib.hid (And.intro h4 (And.intro hE F4))
  have fin : Hid (∀ wf, Fr (fun b => b = T ∨ b = T + 1) w4 wf → ∃ v', Ending.returned (.agg (.int .i64 2 :: .string ⟨tk.text.toArray⟩ :: .bool false :: .int .u64 0 :: .slice none 0 0 :: eC k nm fl bi a0 n0 c0 a1 n1 c1 a2 n2 c2 a3 n3 c3).toArray) = .returned v' ∧ AVal (fun b => b < T) wf v' (.mk 2 tk.text false 0 [] (ex (needF L [45, 62] st)).1) ∧ PAt wf pb vT L (ex (needF L [45, 62] st)).2 ∧ Fr (fun b => b = pb) w wf) := fun wf g => by
    have FF : Fr (fun b => b = pb) w wf := HE.out.2.2.trans g (fun b hb q => by rcases q with q | q <;> omega)
    refine ⟨_, rfl, ⟨_, _, rfl, ?_, (HE.out.2.1.fr g (fun b q => by rcases q with q | q <;> omega)).mono (fun b _ q => by omega)⟩, HP.out.1.keep FF HE.out.1 g (fun q => by rcases q with q | q; exact hneT q.symm; exact hneA q.symm), FF⟩
    exact RowC.nil
  clear h4 f4 bA4 bT4 bA3 bT3 Ac3 Af3 Al3 hE F4 h3
  unfold eC
  go_wp2
  (try simp only [Exit.inBlock, Exit.then])
  refine bodyPost_ret (v := .agg (.int .i64 2 :: .string ⟨tk.text.toArray⟩ :: .bool false :: .int .u64 0 :: .slice none 0 0 :: eC k nm fl bi a0 n0 c0 a1 n1 c1 a2 n2 c2 a3 n3 c3).toArray) (by simp [results, Tryz.results117, go_sem, eC, *]) rfl ?_
  exact fin.out _ (by (repeat (first | (with_reducible exact Fr.refl _ _) | (with_reducible assumption) | (with_reducible exact Fr.of_nil (by assumption)) | (with_reducible refine Fr.drew ?_) | (with_reducible refine Fr.drewN ?_ _) | (with_reducible refine Fr.alloc ?_ _) | (with_reducible refine Fr.set ?_ _ _ (by first | (intro _; exact rfl) | (intro _; exact .inl rfl) | (intro _; exact .inr rfl) | (intro q; exact absurd q (Nat.lt_irrefl _)) | (intro q; simp at q; omega))) | (with_reducible refine Fr.via ?_ (by assumption)) | (with_reducible refine Fr.comp ?_ (by assumption)))))
end
end Go.Proofs.YtlnmicddobgppaaGreatDoor
