/-
  Alternatives (layer 8), given what expr does one level deeper. No conditions.
-/
import Derived.Test.YtlnmicddobgppaaGreatDoorNnF
import Derived.Test.YtlnmicddobgppaaGreatDoorNnA
namespace Go.Proofs.YtlnmicddobgppaaGreatDoor
set_option maxRecDepth 100000
set_option maxHeartbeats 4000000
set_option linter.unusedSimpArgs false
set_option linter.unusedVariables false
open Go.RowKit
section
variable {w : World} {pb : Nat} {vT : Value} {L : List TokV} {s : PS} {deep : Nat} {ex : PS → TE × PS}
theorem palt_any (h : PAt w pb vT L s) (hd : deep ≤ 1000) (hex : Reads pb vT L 61 ((deep : Int) + 1) ex) :
 Calls Tryz.prog 117 #[.pointer (some ⟨pb, 0, none⟩), .int .i64 (deep : Int)] w fun r w' => ∃ v, r = .returned v ∧ AVal (fun b => b < w.heap.size) w' v (altF L ex s).1 ∧ PAt w' pb vT L (altF L ex s).2 ∧ Fr (fun b => b = pb) w w' := by
 obtain ⟨hd1, s1, hP⟩ : ∃ hd1 s1, altHead L s = (hd1, s1) := ⟨_, _, rfl⟩
 have e0 : altF L ex s = (hd1 (ex (needF L [45, 62] s1)).1, (ex (needF L [45, 62] s1)).2) := by unfold altF; rw [hP]
 rw [e0]
 have hpl := h.blk.lt
 have HP := Lib.hid (And.intro h (And.intro hex hP))
 have HKD := Lib.hid (fun w' (f : Fr Nil w w') => pkind_any (h.fr f))
 have i1 : IntKind.i64.wrap ((deep : Int) + 1) = (deep : Int) + 1 := by rw [IntKind.wrap_i64]; omega
 have hf1 := run_tok1
 have hf2 := run_tok2
 obtain ⟨T, hT⟩ : ∃ T, w.heap.size = T := ⟨_, rfl⟩
 rw [hT] at hpl ⊢
 have hneT : T ≠ pb := by omega
 have hneA : T + 1 ≠ pb := by omega
 obtain ⟨kd, hkd⟩ : ∃ kd, kindP L s = kd := ⟨_, rfl⟩
 rw [hkd] at HKD
 have HK := Lib.hid hkd
 clear h hex hP e0 hkd
 go_enter Tryz.func117, Tryz.ntmps117
 go_upto_region 2 with fail
 obtain ⟨W0, hW0⟩ : ∃ W0, (w.alloc (.cells #[.int .i64 0, .string ⟨#[]⟩, .bool false, .int .u64 0, .slice none 0 0, .int .i64 0, .string ⟨#[]⟩, .bool false, .int .u64 0, .slice none 0 0, .slice none 0 0, .slice none 0 0, .slice none 0 0] 120)).alloc (.cells #[.int .i64 0, .string ⟨#[]⟩, .bool false, .int .u64 0, .slice none 0 0, .int .i64 0, .string ⟨#[]⟩, .bool false, .int .u64 0, .slice none 0 0, .slice none 0 0, .slice none 0 0, .slice none 0 0] 120) = W0 := ⟨_, rfl⟩
 rw [hW0]
 have bA0 : Blk W0 (T + 1) #[.int .i64 0, .string ⟨#[]⟩, .bool false, .int .u64 0, .slice none 0 0, .int .i64 0, .string ⟨#[]⟩, .bool false, .int .u64 0, .slice none 0 0, .slice none 0 0, .slice none 0 0, .slice none 0 0] 120 := by
  rw [← hW0]
  have h := Blk.new (w.alloc (.cells #[.int .i64 0, .string ⟨#[]⟩, .bool false, .int .u64 0, .slice none 0 0, .int .i64 0, .string ⟨#[]⟩, .bool false, .int .u64 0, .slice none 0 0, .slice none 0 0, .slice none 0 0, .slice none 0 0] 120)) #[.int .i64 0, .string ⟨#[]⟩, .bool false, .int .u64 0, .slice none 0 0, .int .i64 0, .string ⟨#[]⟩, .bool false, .int .u64 0, .slice none 0 0, .slice none 0 0, .slice none 0 0, .slice none 0 0] 120
  rw [show (w.alloc (.cells #[.int .i64 0, .string ⟨#[]⟩, .bool false, .int .u64 0, .slice none 0 0, .int .i64 0, .string ⟨#[]⟩, .bool false, .int .u64 0, .slice none 0 0, .slice none 0 0, .slice none 0 0, .slice none 0 0] 120)).heap.size = T + 1 by simp [hT]] at h
  exact h
 have fW0 : Fr Nil w W0 := by rw [← hW0]; exact frA
 have bT0 : Blk W0 T #[.int .i64 0, .string ⟨#[]⟩, .bool false, .int .u64 0, .slice none 0 0, .int .i64 0, .string ⟨#[]⟩, .bool false, .int .u64 0, .slice none 0 0, .slice none 0 0, .slice none 0 0, .slice none 0 0] 120 := by
  rw [← hW0]
  have h := Blk.new w #[.int .i64 0, .string ⟨#[]⟩, .bool false, .int .u64 0, .slice none 0 0, .int .i64 0, .string ⟨#[]⟩, .bool false, .int .u64 0, .slice none 0 0, .slice none 0 0, .slice none 0 0, .slice none 0 0] 120
  rw [hT] at h
  exact ((Fr.refl Nil _).alloc _).blk h (fun q => q)
 clear hW0
 go_wp2_with fail
 refine (HKD.out _ fW0).mono ?_
 rintro e w1 ⟨rfl, f1⟩
 have bA1 := f1.blk bA0 (fun q => q)
 have bT1 := f1.blk bT0 (fun q => q)
 have F1 : Fr (fun b => b = pb) w w1 := (Fr.of_nil fW0).comp (Fr.of_nil f1)
 have h1 := HP.out.1.fr (fW0.comp f1)
 have Ac1 := bA1.cell
 have Af1 := bA1.free
 have Al1 := bA1.lt
 clear bA0 bT0 f1 fW0 HKD
 by_cases hk2 : kd = 2
 · subst hk2
   have hH := HP.out.2.2
   unfold altHead at hH
   rw [if_pos HK.out] at hH
   obtain ⟨tk, st, hts⟩ : ∃ tk st, tokenF L 2 s = (tk, st) := ⟨_, _, rfl⟩
   obtain ⟨ns, s2, hns⟩ : ∃ ns s2, namesF L (fuelP L) false [] st = (ns, s2) := ⟨_, _, rfl⟩
   simp only [hts, hns] at hH
   injection hH with hH1 hH2
   subst hH1 hH2
   have HTS := Lib.hid (And.intro hts hns)
   clear hts hns
   go_wp2_with fail
   refine (ptoken_any 2 (by decide) (HP.out.1.keep (Fr.trans F1 (S' := fun b => b = T + 1) (by exact frG) (fun b hb q => by have q' : b = T + 1 := q; omega)) h1 (S := fun b => b = T + 1) (by exact frG) (fun q => hneA q.symm))).mono ?_
   rw [HTS.out.1]
   rintro e w2 ⟨rfl, h2, f2⟩
   have F2 : Fr (fun b => b = pb) w w2 := Fr.comp (Fr.trans F1 (S' := fun b => b = T + 1) (by exact frG) (fun b hb q => by have q' : b = T + 1 := q; omega)) f2
   have bA2 : Blk w2 (T + 1) #[.int .i64 0, .string ⟨#[]⟩, .bool false, .int .u64 0, .slice none 0 0, .int .i64 0, .string ⟨#[]⟩, .bool false, .int .u64 0, .slice none 0 0, .slice none 0 0, .slice none 0 0, .slice none 0 0] 120 := f2.blk (by exact blk1 bA1 <;> simp) hneA
   have bT2 : Blk w2 T #[.int .i64 0, .string ⟨#[]⟩, .bool false, .int .u64 0, .slice none 0 0, .int .i64 0, .string ⟨#[]⟩, .bool false, .int .u64 0, .slice none 0 0, .slice none 0 0, .slice none 0 0, .slice none 0 0] 120 := f2.blk (by exact blk1 bT1 <;> simp) hneT
   have Ac2 := bA2.cell
   have Af2 := bA2.free
   have Al2 := bA2.lt
   have HB2 := Lib.hid (And.intro bA2 bT2)
   clear Ac1 Af1 Al1 bA1 bT1 f2
   unfold tokV
   go_wp2_with fail
   refine (pnames_any false (HP.out.1.keep (Fr.trans F2 (S' := fun b => b = T + 1) (by exact frG) (fun b hb q => by have q' : b = T + 1 := q; omega)) h2 (S := fun b => b = T + 1) (by exact frG) (fun q => hneA q.symm))).mono ?_
   rw [HTS.out.2]
   rintro e w3 ⟨vl, rfl, hl, h3, f3⟩
   have F3 : Fr (fun b => b = pb) w w3 := Fr.comp (Fr.trans F2 (S' := fun b => b = T + 1) (by exact frG) (fun b hb q => by have q' : b = T + 1 := q; omega)) f3
   have bA3 : Blk w3 (T + 1) #[.int .i64 0, .string ⟨tk.text.toArray⟩, .bool false, .int .u64 0, .slice none 0 0, .int .i64 0, .string ⟨#[]⟩, .bool false, .int .u64 0, .slice none 0 0, .slice none 0 0, .slice none 0 0, .slice none 0 0] 120 := f3.blk (by exact blk1 bA2 <;> simp) hneA
   have bT3 : Blk w3 T #[.int .i64 0, .string ⟨#[]⟩, .bool false, .int .u64 0, .slice none 0 0, .int .i64 0, .string ⟨#[]⟩, .bool false, .int .u64 0, .slice none 0 0, .slice none 0 0, .slice none 0 0, .slice none 0 0] 120 := f3.blk (by exact blk1 bT2 <;> simp) hneT
   have Ac3 := bA3.cell
   have Af3 := bA3.free
   have Al3 := bA3.lt
   have HB3 := Lib.hid (And.intro bA3 bT3)
   obtain ⟨av, cv, rfl⟩ := RowC.shape hl
   have hl' : RowS (fun b => b < T + 2) w3 (.slice av ns.length cv) ns := RowC.mono hl (by decide) (fun b _ q => by have h5 := Al2; simp; omega)
   have HL := Lib.hid (And.intro hl' F3)
   clear Ac2 Af2 Al2 bA2 bT2 f3 hl hl'
   go_wp2_with fail
   refine (pneed_any [45, 62] (HP.out.1.keep (Fr.trans F3 (S' := fun b => b = T + 1) (by exact frG) (fun b hb q => by have q' : b = T + 1 := q; omega)) h3 (S := fun b => b = T + 1) (by exact frG) (fun q => hneA q.symm))).mono ?_
   rintro e w4 ⟨rfl, h4, f4⟩
   have HG3 := Lib.hid f4
   have F4 : Fr (fun b => b = pb) w w4 := Fr.comp (Fr.trans F3 (S' := fun b => b = T + 1) (by exact frG) (fun b hb q => by have q' : b = T + 1 := q; omega)) f4
   have bA4 : Blk w4 (T + 1) #[.int .i64 0, .string ⟨tk.text.toArray⟩, .bool false, .int .u64 0, .slice av ns.length cv, .int .i64 0, .string ⟨#[]⟩, .bool false, .int .u64 0, .slice none 0 0, .slice none 0 0, .slice none 0 0, .slice none 0 0] 120 := f4.blk (by exact blk1 bA3 <;> simp) hneA
   have bT4 : Blk w4 T #[.int .i64 0, .string ⟨#[]⟩, .bool false, .int .u64 0, .slice none 0 0, .int .i64 0, .string ⟨#[]⟩, .bool false, .int .u64 0, .slice none 0 0, .slice none 0 0, .slice none 0 0, .slice none 0 0] 120 := f4.blk (by exact blk1 bT3 <;> simp) hneT
   have Ac4 := bA4.cell
   have Af4 := bA4.free
   have Al4 := bA4.lt
   have HB4 := Lib.hid (And.intro bA4 bT4)
   clear Ac3 Af3 Al3 bA3 bT3
   clear f4
   go_wp2_with fail
   refine (HP.out.2.1 _ _ h4).mono ?_
   rintro e w5 ⟨ve, rfl, he, h5, f5⟩
   have HG5 := Lib.hid f5
   have F5 : Fr (fun b => b = pb) w w5 := F4.comp f5
   have bA5 : Blk w5 (T + 1) #[.int .i64 0, .string ⟨tk.text.toArray⟩, .bool false, .int .u64 0, .slice av ns.length cv, .int .i64 0, .string ⟨#[]⟩, .bool false, .int .u64 0, .slice none 0 0, .slice none 0 0, .slice none 0 0, .slice none 0 0] 120 := f5.blk bA4 hneA
   have bT5 : Blk w5 T #[.int .i64 0, .string ⟨#[]⟩, .bool false, .int .u64 0, .slice none 0 0, .int .i64 0, .string ⟨#[]⟩, .bool false, .int .u64 0, .slice none 0 0, .slice none 0 0, .slice none 0 0, .slice none 0 0] 120 := f5.blk bT4 hneT
   obtain ⟨cs, rfl, hE⟩ := he
   obtain ⟨k, nm, fl, bi, a0, n0, c0, a1, n1, c1, a2, n2, c2, a3, n3, c3, rfl⟩ := hE.form
   have hsz := Al4
   have Ac := bA5.cell
   have Af := bA5.free
   have Al := bA5.lt
   have Tc := bT5.cell
   have Tf := bT5.free
   have Tl := bT5.lt
   have HE := Lib.hid (And.intro h5 (And.intro hE F5))
   have fin : Hid (∀ wf, Fr (fun b => b = T ∨ b = T + 1) w5 wf → ∃ v', Ending.returned (.agg (.int .i64 0 :: .string ⟨tk.text.toArray⟩ :: .bool false :: .int .u64 0 :: .slice av ns.length cv :: eC k nm fl bi a0 n0 c0 a1 n1 c1 a2 n2 c2 a3 n3 c3).toArray) = .returned v' ∧ AVal (fun b => b < T) wf v' (.mk 0 tk.text false 0 ns (ex (needF L [45, 62] s2)).1) ∧ PAt wf pb vT L (ex (needF L [45, 62] s2)).2 ∧ Fr (fun b => b = pb) w wf) := fun wf g => by
    have FF : Fr (fun b => b = pb) w wf := HE.out.2.2.trans g (fun b hb q => by rcases q with q | q <;> omega)
    refine ⟨_, rfl, ⟨_, _, rfl, ?_, (HE.out.2.1.fr g (fun b q => by rcases q with q | q <;> omega)).mono (fun b _ q => by omega)⟩, HP.out.1.keep FF HE.out.1 g (fun q => by rcases q with q | q; exact hneT q.symm; exact hneA q.symm), FF⟩
    exact RowC.mono (RowS.fr (RowS.fr (RowS.fr (RowS.fr HL.out.1 (S := fun b => b = T + 1) (by exact frG) (fun b q => by have q' : b = T + 1 := q; omega)) HG3.out (fun b q => by have q' : b = pb := q; omega)) HG5.out (fun b q => by have q' : b = pb := q; omega)) g (fun b q => by rcases q with q | q <;> omega)) (by decide) (fun b _ q => by omega)
   clear h5 f5 bA5 bT5 bA4 bT4 Ac4 Af4 Al4 hE F5 h4
   unfold eC
   go_wp2
   (try simp only [Exit.inBlock, Exit.then])
   refine bodyPost_ret (v := .agg (.int .i64 0 :: .string ⟨tk.text.toArray⟩ :: .bool false :: .int .u64 0 :: .slice av ns.length cv :: eC k nm fl bi a0 n0 c0 a1 n1 c1 a2 n2 c2 a3 n3 c3).toArray) (by simp [results, Tryz.results117, go_sem, eC, *]) rfl ?_
   exact fin.out _ (by exact frG)
 by_cases hk3 : kd = 3
 · subst hk3
   have hH := HP.out.2.2
   unfold altHead at hH
   rw [if_neg (by rw [HK.out]; decide), if_pos HK.out] at hH
   obtain ⟨tk, st, hts⟩ : ∃ tk st, tokenF L 3 s = (tk, st) := ⟨_, _, rfl⟩
   simp only [hts] at hH
   injection hH with hH1 hH2
   subst hH1 hH2
   have HTS := Lib.hid hts
   clear hts
   go_wp2_with fail
   refine (ptoken_any 3 (by decide) (HP.out.1.keep (Fr.trans F1 (S' := fun b => b = T + 1) (by exact frG) (fun b hb q => by have q' : b = T + 1 := q; omega)) h1 (S := fun b => b = T + 1) (by exact frG) (fun q => hneA q.symm))).mono ?_
   rw [HTS.out]
   rintro e w2 ⟨rfl, h2, f2⟩
   have F2 : Fr (fun b => b = pb) w w2 := Fr.comp (Fr.trans F1 (S' := fun b => b = T + 1) (by exact frG) (fun b hb q => by have q' : b = T + 1 := q; omega)) f2
   have bA2 : Blk w2 (T + 1) #[.int .i64 1, .string ⟨#[]⟩, .bool false, .int .u64 0, .slice none 0 0, .int .i64 0, .string ⟨#[]⟩, .bool false, .int .u64 0, .slice none 0 0, .slice none 0 0, .slice none 0 0, .slice none 0 0] 120 := f2.blk (by exact blk1 bA1 <;> simp) hneA
   have bT2 : Blk w2 T #[.int .i64 0, .string ⟨#[]⟩, .bool false, .int .u64 0, .slice none 0 0, .int .i64 0, .string ⟨#[]⟩, .bool false, .int .u64 0, .slice none 0 0, .slice none 0 0, .slice none 0 0, .slice none 0 0] 120 := f2.blk (by exact blk1 bT1 <;> simp) hneT
   have Ac2 := bA2.cell
   have Af2 := bA2.free
   have Al2 := bA2.lt
   have HB2 := Lib.hid (And.intro bA2 bT2)
   clear Ac1 Af1 Al1 bA1 bT1 f2
   unfold tokV
   go_wp2_with fail
   refine (pneed_any [45, 62] (HP.out.1.keep (Fr.trans F2 (S' := fun b => b = T + 1) (by exact frG) (fun b hb q => by have q' : b = T + 1 := q; omega)) h2 (S := fun b => b = T + 1) (by exact frG) (fun q => hneA q.symm))).mono ?_
   rintro e w3 ⟨rfl, h3, f3⟩
   have F3 : Fr (fun b => b = pb) w w3 := Fr.comp (Fr.trans F2 (S' := fun b => b = T + 1) (by exact frG) (fun b hb q => by have q' : b = T + 1 := q; omega)) f3
   have bA3 : Blk w3 (T + 1) #[.int .i64 1, .string ⟨#[]⟩, .bool tk.flt, .int .u64 (tk.bits : Int), .slice none 0 0, .int .i64 0, .string ⟨#[]⟩, .bool false, .int .u64 0, .slice none 0 0, .slice none 0 0, .slice none 0 0, .slice none 0 0] 120 := f3.blk (by exact blk1 bA2 <;> simp) hneA
   have bT3 : Blk w3 T #[.int .i64 0, .string ⟨#[]⟩, .bool false, .int .u64 0, .slice none 0 0, .int .i64 0, .string ⟨#[]⟩, .bool false, .int .u64 0, .slice none 0 0, .slice none 0 0, .slice none 0 0, .slice none 0 0] 120 := f3.blk (by exact blk1 bT2 <;> simp) hneT
   have Ac3 := bA3.cell
   have Af3 := bA3.free
   have Al3 := bA3.lt
   have HB3 := Lib.hid (And.intro bA3 bT3)
   clear Ac2 Af2 Al2 bA2 bT2
   clear f3
   go_wp2_with fail
   refine (HP.out.2.1 _ _ h3).mono ?_
   rintro e w4 ⟨ve, rfl, he, h4, f4⟩
   have F4 : Fr (fun b => b = pb) w w4 := F3.comp f4
   have bA4 : Blk w4 (T + 1) #[.int .i64 1, .string ⟨#[]⟩, .bool tk.flt, .int .u64 (tk.bits : Int), .slice none 0 0, .int .i64 0, .string ⟨#[]⟩, .bool false, .int .u64 0, .slice none 0 0, .slice none 0 0, .slice none 0 0, .slice none 0 0] 120 := f4.blk bA3 hneA
   have bT4 : Blk w4 T #[.int .i64 0, .string ⟨#[]⟩, .bool false, .int .u64 0, .slice none 0 0, .int .i64 0, .string ⟨#[]⟩, .bool false, .int .u64 0, .slice none 0 0, .slice none 0 0, .slice none 0 0, .slice none 0 0] 120 := f4.blk bT3 hneT
   obtain ⟨cs, rfl, hE⟩ := he
   obtain ⟨k, nm, fl, bi, a0, n0, c0, a1, n1, c1, a2, n2, c2, a3, n3, c3, rfl⟩ := hE.form
   have hsz := Al3
   have Ac := bA4.cell
   have Af := bA4.free
   have Al := bA4.lt
   have Tc := bT4.cell
   have Tf := bT4.free
   have Tl := bT4.lt
   have HE := Lib.hid (And.intro h4 (And.intro hE F4))
   have fin : Hid (∀ wf, Fr (fun b => b = T ∨ b = T + 1) w4 wf → ∃ v', Ending.returned (.agg (.int .i64 1 :: .string ⟨#[]⟩ :: .bool tk.flt :: .int .u64 (tk.bits : Int) :: .slice none 0 0 :: eC k nm fl bi a0 n0 c0 a1 n1 c1 a2 n2 c2 a3 n3 c3).toArray) = .returned v' ∧ AVal (fun b => b < T) wf v' (.mk 1 [] tk.flt tk.bits [] (ex (needF L [45, 62] st)).1) ∧ PAt wf pb vT L (ex (needF L [45, 62] st)).2 ∧ Fr (fun b => b = pb) w wf) := fun wf g => by
    have FF : Fr (fun b => b = pb) w wf := HE.out.2.2.trans g (fun b hb q => by rcases q with q | q <;> omega)
    refine ⟨_, rfl, ⟨_, _, rfl, ?_, (HE.out.2.1.fr g (fun b q => by rcases q with q | q <;> omega)).mono (fun b _ q => by omega)⟩, HP.out.1.keep FF HE.out.1 g (fun q => by rcases q with q | q; exact hneT q.symm; exact hneA q.symm), FF⟩
    exact RowC.nil
   clear h4 f4 bA4 bT4 bA3 bT3 Ac3 Af3 Al3 hE F4 h3
   unfold eC
   go_wp2
   (try simp only [Exit.inBlock, Exit.then])
   refine bodyPost_ret (v := .agg (.int .i64 1 :: .string ⟨#[]⟩ :: .bool tk.flt :: .int .u64 (tk.bits : Int) :: .slice none 0 0 :: eC k nm fl bi a0 n0 c0 a1 n1 c1 a2 n2 c2 a3 n3 c3).toArray) (by simp [results, Tryz.results117, go_sem, eC, *]) rfl ?_
   exact fin.out _ (by exact frG)
 have hH := HP.out.2.2
 unfold altHead at hH
 rw [if_neg (by rw [HK.out]; exact hk2), if_neg (by rw [HK.out]; exact hk3)] at hH
 obtain ⟨tk, st, hts⟩ : ∃ tk st, tokenF L 1 s = (tk, st) := ⟨_, _, rfl⟩
 simp only [hts] at hH
 injection hH with hH1 hH2
 subst hH1 hH2
 have HTS := Lib.hid hts
 have d1 := decide_eq_false hk2
 have d2 := decide_eq_false hk3
 have d3 : (kd == 2) = false := by simpa using hk2
 have d4 : (kd == 3) = false := by simpa using hk3
 clear hts
 go_wp2_with fail
 refine (ptoken_any 1 (by decide) (HP.out.1.keep (Fr.trans F1 (S' := fun b => b = T + 1) (by exact frG) (fun b hb q => by have q' : b = T + 1 := q; omega)) h1 (S := fun b => b = T + 1) (by exact frG) (fun q => hneA q.symm))).mono ?_
 rw [HTS.out]
 rintro e w2 ⟨rfl, h2, f2⟩
 have F2 : Fr (fun b => b = pb) w w2 := Fr.comp (Fr.trans F1 (S' := fun b => b = T + 1) (by exact frG) (fun b hb q => by have q' : b = T + 1 := q; omega)) f2
 have bA2 : Blk w2 (T + 1) #[.int .i64 2, .string ⟨#[]⟩, .bool false, .int .u64 0, .slice none 0 0, .int .i64 0, .string ⟨#[]⟩, .bool false, .int .u64 0, .slice none 0 0, .slice none 0 0, .slice none 0 0, .slice none 0 0] 120 := f2.blk (by exact blk1 bA1 <;> simp) hneA
 have bT2 : Blk w2 T #[.int .i64 0, .string ⟨#[]⟩, .bool false, .int .u64 0, .slice none 0 0, .int .i64 0, .string ⟨#[]⟩, .bool false, .int .u64 0, .slice none 0 0, .slice none 0 0, .slice none 0 0, .slice none 0 0] 120 := f2.blk (by exact blk1 bT1 <;> simp) hneT
 have Ac2 := bA2.cell
 have Af2 := bA2.free
 have Al2 := bA2.lt
 have HB2 := Lib.hid (And.intro bA2 bT2)
 clear Ac1 Af1 Al1 bA1 bT1 f2
 unfold tokV
 go_wp2_with fail
 refine (pneed_any [45, 62] (HP.out.1.keep (Fr.trans F2 (S' := fun b => b = T + 1) (by exact frG) (fun b hb q => by have q' : b = T + 1 := q; omega)) h2 (S := fun b => b = T + 1) (by exact frG) (fun q => hneA q.symm))).mono ?_
 rintro e w3 ⟨rfl, h3, f3⟩
 have F3 : Fr (fun b => b = pb) w w3 := Fr.comp (Fr.trans F2 (S' := fun b => b = T + 1) (by exact frG) (fun b hb q => by have q' : b = T + 1 := q; omega)) f3
 have bA3 : Blk w3 (T + 1) #[.int .i64 2, .string ⟨tk.text.toArray⟩, .bool false, .int .u64 0, .slice none 0 0, .int .i64 0, .string ⟨#[]⟩, .bool false, .int .u64 0, .slice none 0 0, .slice none 0 0, .slice none 0 0, .slice none 0 0] 120 := f3.blk (by exact blk1 bA2 <;> simp) hneA
 have bT3 : Blk w3 T #[.int .i64 0, .string ⟨#[]⟩, .bool false, .int .u64 0, .slice none 0 0, .int .i64 0, .string ⟨#[]⟩, .bool false, .int .u64 0, .slice none 0 0, .slice none 0 0, .slice none 0 0, .slice none 0 0] 120 := f3.blk (by exact blk1 bT2 <;> simp) hneT
 have Ac3 := bA3.cell
 have Af3 := bA3.free
 have Al3 := bA3.lt
 have HB3 := Lib.hid (And.intro bA3 bT3)
 clear Ac2 Af2 Al2 bA2 bT2
 clear f3
 go_wp2_with fail
 refine (HP.out.2.1 _ _ h3).mono ?_
 rintro e w4 ⟨ve, rfl, he, h4, f4⟩
 have F4 : Fr (fun b => b = pb) w w4 := F3.comp f4
 have bA4 : Blk w4 (T + 1) #[.int .i64 2, .string ⟨tk.text.toArray⟩, .bool false, .int .u64 0, .slice none 0 0, .int .i64 0, .string ⟨#[]⟩, .bool false, .int .u64 0, .slice none 0 0, .slice none 0 0, .slice none 0 0, .slice none 0 0] 120 := f4.blk bA3 hneA
 have bT4 : Blk w4 T #[.int .i64 0, .string ⟨#[]⟩, .bool false, .int .u64 0, .slice none 0 0, .int .i64 0, .string ⟨#[]⟩, .bool false, .int .u64 0, .slice none 0 0, .slice none 0 0, .slice none 0 0, .slice none 0 0] 120 := f4.blk bT3 hneT
 obtain ⟨cs, rfl, hE⟩ := he
 obtain ⟨k, nm, fl, bi, a0, n0, c0, a1, n1, c1, a2, n2, c2, a3, n3, c3, rfl⟩ := hE.form
 have hsz := Al3
 have Ac := bA4.cell
 have Af := bA4.free
 have Al := bA4.lt
 have Tc := bT4.cell
 have Tf := bT4.free
 have Tl := bT4.lt
 have HE := Lib.hid (And.intro h4 (And.intro hE F4))
 have fin : Hid (∀ wf, Fr (fun b => b = T ∨ b = T + 1) w4 wf → ∃ v', Ending.returned (.agg (.int .i64 2 :: .string ⟨tk.text.toArray⟩ :: .bool false :: .int .u64 0 :: .slice none 0 0 :: eC k nm fl bi a0 n0 c0 a1 n1 c1 a2 n2 c2 a3 n3 c3).toArray) = .returned v' ∧ AVal (fun b => b < T) wf v' (.mk 2 tk.text false 0 [] (ex (needF L [45, 62] st)).1) ∧ PAt wf pb vT L (ex (needF L [45, 62] st)).2 ∧ Fr (fun b => b = pb) w wf) := fun wf g => by
  have FF : Fr (fun b => b = pb) w wf := HE.out.2.2.trans g (fun b hb q => by rcases q with q | q <;> omega)
  refine ⟨_, rfl, ⟨_, _, rfl, ?_, (HE.out.2.1.fr g (fun b q => by rcases q with q | q <;> omega)).mono (fun b _ q => by omega)⟩, HP.out.1.keep FF HE.out.1 g (fun q => by rcases q with q | q; exact hneT q.symm; exact hneA q.symm), FF⟩
  exact RowC.nil
 clear h4 f4 bA4 bT4 bA3 bT3 Ac3 Af3 Al3 hE F4 h3
 unfold eC
 go_wp2
 (try simp only [Exit.inBlock, Exit.then])
 refine bodyPost_ret (v := .agg (.int .i64 2 :: .string ⟨tk.text.toArray⟩ :: .bool false :: .int .u64 0 :: .slice none 0 0 :: eC k nm fl bi a0 n0 c0 a1 n1 c1 a2 n2 c2 a3 n3 c3).toArray) (by simp [results, Tryz.results117, go_sem, eC, *]) rfl ?_
 exact fin.out _ (by exact frG)
end
theorem step_push {P : Program} {ops : Array Oper} {o : Oper} {a : Act} {w : World} {K : Act → World → Prop} {Q : Exit → Act → World → Prop} {E : Prop}
 (hg : o.guard = none) (s x : Operand) (t : TypeId) (hop : o.op = Op.call { callee := Callee.builtin Builtin.append, args := #[s, x], argTypes := #[t, t] })
 (base : Nat) (e : TypeId) (i : TypeInfo) (z : Value) (size bytes : Nat) (h1 : P.underlying t = some (.slice e)) (h2 : P.info? e = some i) (h3 : i.zero = some z) (h4 : i.size = size) (h5 : i.bytes = bytes) (h6 : z.cells.size = size) (h7 : 0 < size)
 (v : Value) (n : Nat) (xs : List Value) (hs : a.eval s = v) (hown : w.ownsRow base e size v n xs) (news : List Value) (hx : a.eval x = .slice (some ⟨w.heap.size, 0, none⟩) 1 1) (hl : news.length = size) (h1c : ∀ u ∈ news, u.oneCell' = true)
 (b1 : n + 1 ≤ maxLen) (b2 : (n + 1) * bytes ≤ 140737488355328) (hbase : base ≤ w.heap.size)
 (hK : ∀ v' w', w'.ownsRow base e size v' (n + 1) (xs ++ news) → Fr (fun k => v.ownBlock = some k) w w' → (∀ k, v'.ownBlock = some k → v.ownBlock = some k ∨ w.heap.size ≤ k) → K (a.put o.dst v') w') :
 if Region.wanted o (yielded ops a.tmps) = true then Oper.wp P o a (w.alloc (.cells news.toArray e)) K Q else E := by
 have fA : Fr Nil w (w.alloc (.cells news.toArray e)) := (Fr.refl _ _).alloc _
 have hb : Blk (w.alloc (.cells news.toArray e)) w.heap.size news.toArray e := Blk.new _ _ _
 refine step_append_src hg s x t hop base e i z size bytes h1 h2 h3 h4 h5 h6 h7 v n xs hs (owns_frS hown fA (fun _ _ q => q)) (some ⟨w.heap.size, 0, none⟩) 1 1 news hx (.inr ⟨_, rfl, by rw [hl]; omega, fun j u hj => ?_⟩) h1c b1 b2 (Nat.le_trans hbase fA.size) ?_
 · rw [add_head, hb.cell]
   simpa using hj
 · intro v' w' r1 r2 r3
   refine hK v' w' r1 (Fr.grown (fA.of_nil) r2 (fun k q _ => q)) (fun k q => ?_)
   rcases r3 with r3 | r3
   · exact .inl (r3 ▸ q)
   · rw [r3] at q
     cases q
     exact .inr fA.size
section
variable {w : World} {pb : Nat} {vT : Value} {L : List TokV} {s : PS}
theorem pstarts_any (h : PAt w pb vT L s) :
 Calls Tryz.prog 93 #[.pointer (some ⟨pb, 0, none⟩)] w fun r w' => r = .returned (.bool (startsF L s)) ∧ Fr Nil w w' := by
 have HK := Lib.hid (pkind_any h)
 have HP := Lib.hid h
 obtain ⟨kd, hkd⟩ : ∃ kd, kindP L s = kd := ⟨_, rfl⟩
 rw [hkd] at HK
 obtain ⟨B, hB⟩ : ∃ B, startsF L s = B := ⟨_, rfl⟩
 rw [hB]
 have HB := Lib.hid hB
 by_cases hk : kd = 1 ∨ kd = 2 ∨ kd = 3 ∨ kd = 7
 · obtain rfl : B = true := by rw [← hB]; unfold startsF; rw [hkd, if_pos hk]
   clear h hB hkd
   rcases hk with rfl | rfl | rfl | rfl
   all_goals
    go_enter Tryz.func93, Tryz.ntmps93
    go_wp2_with fail
    refine HK.out.mono ?_
    rintro e w1 ⟨rfl, f1⟩
    go_wp2
    go_ret
    exact ⟨rfl, by exact frA⟩
 · have hB2 : B = (seesF L [108, 101, 116] s || seesF L [99, 97, 115, 101] s || seesF L [40] s || seesF L [92] s) := by rw [← hB]; unfold startsF; rw [hkd, if_neg hk]
   have h1 : ¬ kd = 1 := fun q => hk (.inl q)
   have h2 : ¬ kd = 2 := fun q => hk (.inr (.inl q))
   have h3 : ¬ kd = 3 := fun q => hk (.inr (.inr (.inl q)))
   have h7 : ¬ kd = 7 := fun q => hk (.inr (.inr (.inr q)))
   have d1 : (kd == 1) = false := by simpa using h1
   have d2 : (kd == 2) = false := by simpa using h2
   have d3 : (kd == 3) = false := by simpa using h3
   have d7 : (kd == 7) = false := by simpa using h7
   have HS := Lib.hid (fun x w' (f : Fr Nil w w') => psees_any x (h.fr f))
   obtain ⟨x1, e1⟩ : ∃ x1, seesF L [108, 101, 116] s = x1 := ⟨_, rfl⟩
   obtain ⟨x2, e2⟩ : ∃ x2, seesF L [99, 97, 115, 101] s = x2 := ⟨_, rfl⟩
   obtain ⟨x3, e3⟩ : ∃ x3, seesF L [40] s = x3 := ⟨_, rfl⟩
   obtain ⟨x4, e4⟩ : ∃ x4, seesF L [92] s = x4 := ⟨_, rfl⟩
   rw [e1, e2, e3, e4] at hB2
   have HE := Lib.hid (And.intro e1 (And.intro e2 (And.intro e3 e4)))
   subst hB2
   clear h hB hkd hk e1 e2 e3 e4
   go_enter Tryz.func93, Tryz.ntmps93
   go_wp2_with fail
   refine HK.out.mono ?_
   rintro e w1 ⟨rfl, f1⟩
   go_wp2_with fail
   refine (HS.out [108, 101, 116] _ f1).mono ?_
   rw [HE.out.1]
   rintro e w2 ⟨rfl, f2⟩
   have F2 := f1.comp f2
   cases x1 with
   | true =>
    go_wp2
    go_ret
    exact ⟨rfl, F2⟩
   | false =>
    go_wp2_with fail
    refine (HS.out [99, 97, 115, 101] _ F2).mono ?_
    rw [HE.out.2.1]
    rintro e w3 ⟨rfl, f3⟩
    have F3 := F2.comp f3
    cases x2 with
    | true =>
     go_wp2
     go_ret
     exact ⟨rfl, F3⟩
    | false =>
     go_wp2_with fail
     refine (HS.out [40] _ F3).mono ?_
     rw [HE.out.2.2.1]
     rintro e w4 ⟨rfl, f4⟩
     have F4 := F3.comp f4
     cases x3 with
     | true =>
      go_wp2
      go_ret
      exact ⟨rfl, F4⟩
     | false =>
      go_wp2_with fail
      refine (HS.out [92] _ F4).mono ?_
      rw [HE.out.2.2.2]
      rintro e w5 ⟨rfl, f5⟩
      go_wp2
      go_ret
      exact ⟨by simp, F4.comp f5⟩
end
theorem RowC.one {X : Nat → Prop} {w : World} {b : Nat} {cs : List Value} {t : TypeId} {size : Nat} (h : Blk w b cs.toArray t) (hl : cs.length = size) (hX : ¬ X b) : RowC X w (.slice (some ⟨b, 0, none⟩) 1 1) 1 size (fun _ => cs) :=
 ⟨_, 1, rfl, Nat.le_refl _, by unfold maxLen; omega, fun i hi => ⟨b, 0, rfl, hX, hl, fun j u hj => by
  have e : i = 0 := by omega
  subst e
  simp only [Nat.zero_mul, Nat.zero_add]
  rw [h.cell]
  simpa using hj⟩⟩
theorem EAt.rows {X : Nat → Prop} {w : World} {kv av bv pv : Value} {params : List (List UInt8)} {kids : List TE} {alts : List TA} {binds : List TB} {kc ac bc : Nat → List Value} (kind : Nat) (name : List UInt8)
 (hp : RowS X w pv params) (hk : RowC X w kv kids.length 8 kc) (hk2 : ∀ i (h : i < kids.length), EAt X w (kc i) kids[i])
 (hb : RowC X w bv binds.length 10 bc) (hb2 : ∀ i (h : i < binds.length), BAt X w (bc i) binds[i])
 (ha : RowC X w av alts.length 13 ac) (ha2 : ∀ i (h : i < alts.length), AAt X w (ac i) alts[i]) :
 EAt X w [.int .i64 (kind : Int), .string ⟨name.toArray⟩, .bool false, .int .u64 ((0 : Nat) : Int), pv, kv, bv, av] (.mk kind name false 0 params kids binds alts) := by
 classical
 exact .mk kc bc ac (fun i => if h : i < binds.length then (hb2 i h).choose_spec.choose else []) (fun i => if h : i < alts.length then (ha2 i h).choose_spec.choose else []) (fun i => if h : i < binds.length then (hb2 i h).choose else .bool false) (fun i => if h : i < alts.length then (ha2 i h).choose else .bool false)
  hp hk hk2 hb
  (fun i h => by simp only [dif_pos h]; exact (hb2 i h).choose_spec.choose_spec.1) (fun i h => by simp only [dif_pos h]; exact (hb2 i h).choose_spec.choose_spec.2.1) (fun i h => by simp only [dif_pos h]; exact (hb2 i h).choose_spec.choose_spec.2.2)
  ha
  (fun i h => by simp only [dif_pos h]; exact (ha2 i h).choose_spec.choose_spec.1) (fun i h => by simp only [dif_pos h]; exact (ha2 i h).choose_spec.choose_spec.2.1) (fun i h => by simp only [dif_pos h]; exact (ha2 i h).choose_spec.choose_spec.2.2)
theorem row_end {α : Type} {R : (Nat → Prop) → World → List Value → α → Prop} {size : Nat} {t : TypeId} {w w4 w0 wa w9 wf : World} {pb Te B : Nat} {vT v v' : Value} {L : List TokV} {s st' : PS} {acc : List α} {c cl : List Value} {a : α} (law : ElemLaw R size)
 (h0 : PAt w pb vT L s) (F4 : Fr (fun b => b = pb) w w4) (hB : w4.heap.size = B) (hTe : w.heap.size ≤ Te) (hTB : Te < B) (F0 : Fr (fun b => b = pb ∨ b = Te) w4 w0) (HR : RowsAt R size t B w0 v acc) (ha : PAt wa pb vT L st') (fa : Fr (fun b => b = pb) w0 wa)
 (he : R (fun b => b < w0.heap.size) wa c a) (hcl : w0.ownsRow B t size v acc.length cl) (ho : w9.ownsRow B t size v' (acc.length + 1) (cl ++ c)) (f9 : Fr (fun k => v.ownBlock = some k) wa w9) (hk : ∀ k, v'.ownBlock = some k → v.ownBlock = some k ∨ wa.heap.size ≤ k) (gf : Fr (fun b => b = Te) w9 wf) :
 RowsAt R size t B wf v' (acc ++ [a]) ∧ PAt wf pb vT L st' ∧ Fr (fun b => b = pb ∨ b = Te) w4 wf ∧ Fr (fun b => b = pb) w wf := by
 have hpb := h0.blk.lt
 have hown := HR.own
 have hs0 := F0.size
 have hRa := HR.fr law fa (fun b q => by omega)
 have hcla := owns_frS hcl fa (fun k q e => by have := (hown k q).1; have e' : k = pb := e; omega)
 have hR9 := (hRa.push law (law.mono he (fun b _ q => by rcases q with q | q; omega; exact (hown b q).2)) hcla ho f9 hk).fr law gf (fun b q => by have q' : b = Te := q; omega)
 have G : Fr (fun b => b = pb ∨ b = Te) w4 wf := ((F0.comp (fa.mono (fun _ _ q => .inl q))).trans f9 (fun k hk2 q => by have := (hown k q).1; omega)).trans gf (fun _ _ q => .inr q)
 have FF : Fr (fun b => b = pb) w wf := F4.trans G (fun k hk2 q => by rcases q with q | q; exact q; omega)
 refine ⟨hR9, h0.keep FF ha (S := fun b => b = Te ∨ v.ownBlock = some b) ((f9.mono (fun _ _ q => Or.inr q)).trans gf (fun _ _ q => .inl q)) (fun q => ?_), G, FF⟩
 rcases q with q | q
 · omega
 · have := (hown pb q).1; omega
theorem aval_form {X : Nat → Prop} {w : World} {v : Value} {t : TA} (h : AVal X w v t) : ∃ (tk : Nat) (tn : ByteArray) (tf : Bool) (tb : Nat) (pa : Option Addr) (pn pc k' : Nat) (nm' : ByteArray) (fl' : Bool) (bi' : Nat) (b0 : Option Addr) (m0 d0 : Nat) (b1 : Option Addr) (m1 d1 : Nat) (b2 : Option Addr) (m2 d2 : Nat) (b3 : Option Addr) (m3 d3 : Nat),
 v = .agg #[.int .i64 (tk : Int), .string tn, .bool tf, .int .u64 (tb : Int), .slice pa pn pc, .int .i64 (k' : Int), .string nm', .bool fl', .int .u64 (bi' : Int), .slice b0 m0 d0, .slice b1 m1 d1, .slice b2 m2 d2, .slice b3 m3 d3] ∧ AAt X w [.int .i64 (tk : Int), .string tn, .bool tf, .int .u64 (tb : Int), .slice pa pn pc, .int .i64 (k' : Int), .string nm', .bool fl', .int .u64 (bi' : Int), .slice b0 m0 d0, .slice b1 m1 d1, .slice b2 m2 d2, .slice b3 m3 d3] t := by
 obtain ⟨pn, cs, rfl, h1, h2⟩ := h
 obtain ⟨pa, pc, rfl⟩ := RowC.shape h1
 obtain ⟨k, nm, fl, bi, a0, n0, c0, a1, n1, c1, a2, n2, c2, a3, n3, c3, rfl⟩ := h2.form
 exact ⟨_, _, _, _, _, _, _, _, _, _, _, _, _, _, _, _, _, _, _, _, _, _, _, rfl, _, _, rfl, h1, h2⟩
section
variable {w : World} {pb : Nat} {vT : Value} {L : List TokV} {s : PS} {deep : Nat} {ex : PS → TE × PS}
set_option maxHeartbeats 8000000 in
theorem pchoice_any (h : PAt w pb vT L s) (hlt : s.at_ < L.length) (hd : deep ≤ 1000) (hgo : ∀ s, Goes L s (ex s).2) (hex : Reads pb vT L 61 ((deep : Int) + 1) ex) :
 Calls Tryz.prog 94 #[.pointer (some ⟨pb, 0, none⟩), .int .i64 (deep : Int)] w fun r w' => ∃ v, r = .returned v ∧ EVal (fun b => b < w.heap.size) w' v (choiceF L ex s).1 ∧ PAt w' pb vT L (choiceF L ex s).2 ∧ Fr (fun b => b = pb) w w' := by
 obtain ⟨i0, hi, hz0, hz1, hz2⟩ := info_parts infoA
 obtain ⟨R, hR⟩ : ∃ R, choiceF L ex s = R := ⟨_, rfl⟩
 rw [hR]
 obtain ⟨t0, s0, hx⟩ : ∃ t0 s0, ex { s with at_ := s.at_ + 1 } = (t0, s0) := ⟨_, _, rfl⟩
 obtain ⟨s3, hs3⟩ : ∃ s3, needF L [123] (needF L [111, 102] s0) = s3 := ⟨_, rfl⟩
 have hR2 : (if s3.e = 0 ∧ seesF L [125] s3 = true then ((.mk 7 [] false 0 [] [t0] [] [] : TE), { s3 with at_ := s3.at_ + 1 }) else (.mk 7 [] false 0 [] [t0] [] (altsF L ex (fuelP L) [(altF L ex s3).1] (altF L ex s3).2).1, needF L [125] (altsF L ex (fuelP L) [(altF L ex s3).1] (altF L ex s3).2).2)) = R := by
  rw [← hR]
  unfold choiceF
  rw [hx]
  simp only [hs3]
 obtain ⟨p0, p1, p2, p3, pf, pl⟩ := h.facts
 have hszL := h.sz
 have j2 : IntKind.i64.wrap ((s.at_ : Int) + 1) = (s.at_ : Int) + 1 := by rw [IntKind.wrap_i64]; omega
 have j1 : IntKind.i64.wrap ((deep : Int) + 1) = (deep : Int) + 1 := by rw [IntKind.wrap_i64]; omega
 have hpl := h.blk.lt
 obtain ⟨T, hT⟩ : ∃ T, w.heap.size = T := ⟨_, rfl⟩
 rw [hT] at hpl ⊢
 have hne : T ≠ pb := by omega
 have HP := Lib.hid (And.intro h (And.intro hx (And.intro hs3 (And.intro hR2 (And.intro hgo hex)))))
 clear h hR hx hs3 hR2 hgo hex
 go_enter Tryz.func94, Tryz.ntmps94
 go_upto_region 2 with fail
 obtain ⟨V, hV⟩ : ∃ V, (w.setCell ⟨pb, 1, none⟩ (.int .i64 ((s.at_ : Int) + 1))).alloc (.cells #[.int .i64 0, .string ⟨#[]⟩, .bool false, .int .u64 0, .slice none 0 0, .slice none 0 0, .slice none 0 0, .slice none 0 0] 49) = V := ⟨_, rfl⟩
 rw [hV]
 have fV : Fr (fun b => b = pb) w V := by rw [← hV]; exact frG
 have bV : Blk V pb #[vT, .int .i64 ((s.at_ : Int) + 1), .int .i64 (s.e : Int), .int .i64 (s.line : Int)] 76 := by
  rw [← hV]
  (unfold Blk; simp (disch := first | omega | (simp; done) | (simp; omega)) only [hp_drew, hp_drewN, hp_alloc, hp_other, hp_same, hp_new, upd_cells, Option.map_some, (HP.out.1.blk).eq])
  simp
 have bTV : Blk V T #[.int .i64 0, .string ⟨#[]⟩, .bool false, .int .u64 0, .slice none 0 0, .slice none 0 0, .slice none 0 0, .slice none 0 0] 49 := by
  rw [← hV]
  have h := Blk.new (w.setCell ⟨pb, 1, none⟩ (.int .i64 ((s.at_ : Int) + 1))) #[.int .i64 0, .string ⟨#[]⟩, .bool false, .int .u64 0, .slice none 0 0, .slice none 0 0, .slice none 0 0, .slice none 0 0] 49
  rw [show (w.setCell ⟨pb, 1, none⟩ (.int .i64 ((s.at_ : Int) + 1))).heap.size = T by simp [World.setCell, hT]] at h
  exact h
 have hPV : PAt V pb vT L { s with at_ := s.at_ + 1 } := HP.out.1.to fV bV hlt
 have hTV := bTV.lt
 clear hV bV p0 p1 p2 p3 pf pl
 go_wp2_with fail
 refine (HP.out.2.2.2.2.2 _ _ hPV).mono ?_
 rw [HP.out.2.1]
 rintro e w1 ⟨ve, rfl, he, h1, f1⟩
 obtain ⟨cs, rfl, hE⟩ := he
 obtain ⟨k, nm, fl, bi, a0, n0, c0, a1, n1, c1, a2, n2, c2, a3, n3, c3, rfl⟩ := hE.form
 have hE : EAt (fun b => b < V.heap.size) w1 _ t0 := hE
 have h1 : PAt w1 pb vT L s0 := h1
 have hV1 := f1.size
 have F1 := fV.comp f1
 have bT1 := f1.blk bTV hne
 have hT1 := bT1.lt
 clear hPV bTV fV f1
 unfold eC
 go_upto_region 3 with fail
 obtain ⟨Tk, hTk⟩ : ∃ Tk, w1.heap.size = Tk := ⟨_, rfl⟩
 rw [hTk]
 obtain ⟨W1, hW1⟩ : ∃ W1, (w1.alloc (.cells #[.int .i64 (k : Int), .string nm, .bool fl, .int .u64 (bi : Int), .slice a0 n0 c0, .slice a1 n1 c1, .slice a2 n2 c2, .slice a3 n3 c3] 49)).alloc (.cells #[.int .i64 7, .string ⟨#[]⟩, .bool false, .int .u64 0, .slice none 0 0, .slice (some ⟨Tk, 0, none⟩) 1 1, .slice none 0 0, .slice none 0 0] 49) = W1 := ⟨_, rfl⟩
 rw [hW1]
 have gW1 : Fr Nil w1 W1 := by rw [← hW1]; exact frA
 have bK1 : Blk W1 Tk (eC k nm fl bi a0 n0 c0 a1 n1 c1 a2 n2 c2 a3 n3 c3).toArray 49 := by
  rw [← hW1]
  have h := Blk.new w1 (eC k nm fl bi a0 n0 c0 a1 n1 c1 a2 n2 c2 a3 n3 c3).toArray 49
  rw [hTk] at h
  exact ((Fr.refl Nil _).alloc _).blk h (fun q => q)
 have bE1 : Blk W1 (Tk + 1) #[.int .i64 7, .string ⟨#[]⟩, .bool false, .int .u64 0, .slice none 0 0, .slice (some ⟨Tk, 0, none⟩) 1 1, .slice none 0 0, .slice none 0 0] 49 := by
  rw [← hW1]
  have h := Blk.new (w1.alloc (.cells #[.int .i64 (k : Int), .string nm, .bool fl, .int .u64 (bi : Int), .slice a0 n0 c0, .slice a1 n1 c1, .slice a2 n2 c2, .slice a3 n3 c3] 49)) #[.int .i64 7, .string ⟨#[]⟩, .bool false, .int .u64 0, .slice none 0 0, .slice (some ⟨Tk, 0, none⟩) 1 1, .slice none 0 0, .slice none 0 0] 49
  rw [show (w1.alloc (.cells #[.int .i64 (k : Int), .string nm, .bool fl, .int .u64 (bi : Int), .slice a0 n0 c0, .slice a1 n1 c1, .slice a2 n2 c2, .slice a3 n3 c3] 49)).heap.size = Tk + 1 by simp [hTk]] at h
  exact h
 have hneK : Tk ≠ pb := by omega
 have hneE : Tk + 1 ≠ pb := by omega
 have hVsz : V.heap.size ≤ Tk := by omega
 have hTK : T < Tk := by omega
 have hE1 := (hE.mono (Y := fun b => b < T + 1 ∨ Tk ≤ b) (fun b hb q => by rcases q with q | q <;> omega)).fr gW1 (fun _ q => q.elim)
 have h1' := h1.fr gW1
 have bT1' := gW1.blk bT1 (fun q => q)
 have F1' := F1.via gW1
 clear hW1 gW1 h1 hE bT1 F1
 go_wp2_with fail
 refine (pneed_any [111, 102] h1').mono ?_
 rintro e w2 ⟨rfl, h2, f2⟩
 have F2 := F1'.comp f2
 have hE2 := hE1.fr f2 (fun b q => by have q' : b = pb := q; omega)
 have bK2 := f2.blk bK1 hneK
 have bE2 := f2.blk bE1 hneE
 have bT2 := f2.blk bT1' hne
 clear h1' hE1 bK1 bE1 bT1' F1' f2
 go_wp2_with fail
 refine (pneed_any [123] h2).mono ?_
 rw [HP.out.2.2.1]
 rintro e w3 ⟨rfl, h3, f3⟩
 have F3 := F2.comp f3
 have hE3 := hE2.fr f3 (fun b q => by have q' : b = pb := q; omega)
 have bK3 := f3.blk bK2 hneK
 have bE3 := f3.blk bE2 hneE
 have bT3 := f3.blk bT2 hne
 clear h2 hE2 bK2 bE2 bT2 F2 f3
 obtain ⟨p0, p1, p2, p3, pf, pl⟩ := h3.facts
 obtain ⟨cc, hcc⟩ : ∃ cc, decide (s3.e = 0 ∧ seesF L [125] s3 = true) = cc := ⟨_, rfl⟩
 have HCC := Lib.hid hcc
 have H3 := Lib.hid (And.intro h3 (And.intro F3 (And.intro hE3 (And.intro bK3 (And.intro bE3 bT3)))))
 clear hcc h3 F3 hE3 bK3 bE3 bT3 hTV hT1
 go_upto_region 5 with fail
 go_cut [31] (fun sv wx => sv = .bool cc ∧ Fr Nil w3 wx)
 case first =>
  by_cases he : s3.e = 0
  · have i2 : (s3.e : Int) = 0 := by omega
    rw [i2] at p2
    have hcc := HCC.out
    have hd : cc = seesF L [125] s3 := by rw [← hcc]; simp [he]
    have HS := Lib.hid (psees_any [125] H3.out.1)
    rw [← hd] at HS
    clear hcc hd i2
    go_wp2_with fail
    refine HS.out.mono ?_
    rintro e w4 ⟨rfl, f4⟩
    go_wp2
    go_meet
    exact ⟨by simp, by exact frA⟩
  · have i2 : ¬ (s3.e : Int) = 0 := by omega
    have d3 : ((s3.e : Int) == 0) = false := by simpa using i2
    have hcc := HCC.out
    rw [decide_eq_false (fun q => he q.1)] at hcc
    subst hcc
    go_wp2
    go_meet
    exact ⟨by simp [d3], by exact frA⟩
 case rest =>
  obtain ⟨rfl, f4⟩ := hcut
  obtain ⟨w4, hw4⟩ : ∃ w4, wc = w4 := ⟨_, rfl⟩
  rw [hw4] at f4 ⊢
  clear hw4 p0 p1 p2 p3 pf pl
  have h4 := H3.out.1.fr f4
  have F4 := H3.out.2.1.via f4
  have hE4 := H3.out.2.2.1.fr f4 (fun _ q => q.elim)
  have bK4 := f4.blk H3.out.2.2.2.1 (fun q => q)
  have bE4 := f4.blk H3.out.2.2.2.2.1 (fun q => q)
  have bT4 := f4.blk H3.out.2.2.2.2.2 (fun q => q)
  cases cc with
  | true =>
   have hc := of_decide_eq_true HCC.out
   have hl3 := sees_lt hc.2
   have hR := HP.out.2.2.2.1
   rw [if_pos hc] at hR
   have j3 : IntKind.i64.wrap ((s3.at_ : Int) + 1) = (s3.at_ : Int) + 1 := by rw [IntKind.wrap_i64]; omega
   obtain ⟨p0, p1, p2, p3, pf, pl⟩ := h4.facts
   have Ec := bE4.cell
   have Ef := bE4.free
   have El := bE4.lt
   have Tc := bT4.cell
   have Tf := bT4.free
   have Tl := bT4.lt
   have fin : Hid (∀ wf, Fr (fun b => b = pb ∨ b = T) w4 wf → Blk wf pb #[vT, .int .i64 ((s3.at_ : Int) + 1), .int .i64 (s3.e : Int), .int .i64 (s3.line : Int)] 76 → ∃ v', Ending.returned (.agg #[.int .i64 7, .string ⟨#[]⟩, .bool false, .int .u64 0, .slice none 0 0, .slice (some ⟨Tk, 0, none⟩) 1 1, .slice none 0 0, .slice none 0 0]) = .returned v' ∧ EVal (fun b => b < T) wf v' R.1 ∧ PAt wf pb vT L R.2 ∧ Fr (fun b => b = pb) w wf) := fun wf g hb => by
    rw [← hR]
    have FF : Fr (fun b => b = pb) w wf := F4.trans g (fun b hb q => by rcases q with q | q; exact q; omega)
    have hk := g.blk bK4 (fun q => by rcases q with q | q <;> omega)
    refine ⟨_, rfl, ⟨_, rfl, EAt.rows (kids := [t0]) (alts := []) (binds := []) (params := []) (kc := fun _ => eC k nm fl bi a0 n0 c0 a1 n1 c1 a2 n2 c2 a3 n3 c3) (ac := fun _ => []) (bc := fun _ => []) 7 [] RowC.nil (RowC.one hk rfl (by omega)) (fun i hi => ?_) .nil (fun i h => absurd h (Nat.not_lt_zero i)) .nil (fun i h => absurd h (Nat.not_lt_zero i))⟩, HP.out.1.to FF hb hl3, FF⟩
    have e : i = 0 := by simp at hi; exact hi
    subst e
    exact (hE4.fr g (fun b q => by rcases q with q | q <;> omega)).mono (fun b _ q => by omega)
   have HPB := Lib.hid h4.blk
   clear h4 F4 hE4 bK4 bE4 bT4 hR hc
   go_wp2
   (try simp only [Exit.inBlock, Exit.then])
   refine bodyPost_ret (v := .agg #[.int .i64 7, .string ⟨#[]⟩, .bool false, .int .u64 0, .slice none 0 0, .slice (some ⟨Tk, 0, none⟩) 1 1, .slice none 0 0, .slice none 0 0]) (by simp [results, Tryz.results94, go_sem, *]) rfl ?_
   exact fin.out _ (by exact frG) (by exact blk1 HPB.out <;> simp)
  | false =>
   have hnc := of_decide_eq_false HCC.out
   have hR := HP.out.2.2.2.1
   rw [if_neg hnc] at hR
   have HR := Lib.hid hR
   obtain ⟨B, hB⟩ : ∃ B, w4.heap.size = B := ⟨_, rfl⟩
   have hX0 : Hid (PAt w4 pb vT L s3 ∧ Blk w4 (Tk + 1) #[.int .i64 7, .string ⟨#[]⟩, .bool false, .int .u64 0, .slice none 0 0, .slice (some ⟨Tk, 0, none⟩) 1 1, .slice none 0 0, .slice none 0 0] 49 ∧ w4.ownsRow B 120 13 (.slice none 0 0) 0 []) := ⟨h4, bE4, World.ownsRow_nil _ _ _ _⟩
   have H4 := Lib.hid (And.intro F4 (And.intro hE4 (And.intro bK4 bT4)))
   have hBl := bE4.lt
   have p6 := bE4.cell 7
   simp at p6
   have Elt := bE4.lt
   have hPB := HP.out.1.blk.lt
   clear hR hnc h4 F4 hE4 bK4 bE4 bT4
   go_upto_region 8 with fail
   go_cut [] (fun wx => ∃ v, Hid (RowsAt AAt 13 120 B wx v [(altF L ex s3).1] ∧ PAt wx pb vT L (altF L ex s3).2 ∧ Blk wx (Tk + 1) #[.int .i64 7, .string ⟨#[]⟩, .bool false, .int .u64 0, .slice none 0 0, .slice (some ⟨Tk, 0, none⟩) 1 1, .slice none 0 0, v] 49 ∧ Fr (fun b => b = pb ∨ b = Tk + 1) w4 wx))
   case first =>
    go_region_law (first
     | (refine step_push (w := wa) rfl (.tmp 41) (.tmp 45) 47 rfl B 120 i0 (.agg #[.int .i64 0, .string ⟨#[]⟩, .bool false, .int .u64 0, .slice none 0 0, .int .i64 0, .string ⟨#[]⟩, .bool false, .int .u64 0, .slice none 0 0, .slice none 0 0, .slice none 0 0, .slice none 0 0]) 13 200 Tryz.underlying47 hi hz0 hz1 hz2 rfl (by decide) (.slice none 0 0) (0) [] (by simp [Act.eval, Act.put]) (owns_frS hX0.out.2.2 HA.out.2.1 (fun q z y => by have y' : q = pb := y; have := (hX0.out.2.2.lt q z).1; omega)) [.int .i64 (tk : Int), .string tn, .bool tf, .int .u64 (tb : Int), .slice pa pn pc, .int .i64 (k' : Int), .string nm', .bool fl', .int .u64 (bi' : Int), .slice b0 m0 d0, .slice b1 m1 d1, .slice b2 m2 d2, .slice b3 m3 d3] (by simp [Act.eval, Act.put]) rfl (by simp [Value.oneCell']) (by unfold maxLen; omega) (by omega) (by omega) ?_; intro v' w9 hown9 f9 hk9; have bE9 := f9.blk HA.out.2.2.1 (fun z => by have := (hX0.out.2.2.lt _ z).1; omega); have e6 := bE9.cell 7; simp at e6; have ef := bE9.free; have el := bE9.lt; obtain ⟨x9, y9, rfl⟩ := owns_shape hown9; have HO := Lib.hid (And.intro hown9 (And.intro f9 (And.intro hk9 bE9))); clear hown9 f9 hk9 bE9)
     | (go_simp; go_at_call 117; refine (palt_any (hX0.out.1.fr (by exact frA)) hd HP.out.2.2.2.2.2).mono ?_; rintro e wa ⟨va, rfl, hva, ha, fa⟩; have fa' : Fr (fun b => b = pb) w4 wa := Fr.trans (S := fun b => b = pb) (by exact frG) fa (fun _ _ q => q); obtain ⟨tk, tn, tf, tb, pa, pn, pc, k', nm', fl', bi', b0, m0, d0, b1, m1, d1, b2, m2, d2, b3, m3, d3, rfl, hAA⟩ := aval_form hva; have bEa := fa'.blk hX0.out.2.1 hneE; have pa6 := bEa.cell 7; simp at pa6; have Elt := bEa.lt; have hsa := fa'.size; have HA := Lib.hid (And.intro ha (And.intro fa' (And.intro bEa hAA))); clear ha fa fa' hva bEa hAA))
    all_goals
     go_wp2_with fail
     go_meet
     have E := row_end (Te := Tk + 1) lawA HP.out.1 H4.out.1 hB (by omega) (by omega) (Fr.refl _ _) RowsAt.nil HA.out.1 HA.out.2.1 HA.out.2.2.2 hX0.out.2.2 HO.out.1 HO.out.2.1 HO.out.2.2.1 (wf := w9.setCell ⟨Tk + 1, 7, none⟩ (.slice x9 1 y9)) (by exact frG)
     refine ⟨.slice x9 1 y9, Lib.hid ⟨E.1, E.2.1, ?_, E.2.2.1⟩⟩
     (unfold Blk; simp (disch := first | omega | (simp; done) | (simp; omega)) only [hp_drew, hp_drewN, hp_alloc, hp_other, hp_same, hp_new, upd_cells, Option.map_some, (HO.out.2.2.2).eq])
     simp
   case rest =>
    obtain ⟨v0, HS0⟩ := hcut
    obtain ⟨w5, hw5⟩ : ∃ w5, wc = w5 := ⟨_, rfl⟩
    rw [hw5] at HS0 ⊢
    clear hw5 p6 Elt
    obtain ⟨A0, s4, hA0⟩ : ∃ A0 s4, altF L ex s3 = (A0, s4) := ⟨_, _, rfl⟩
    rw [hA0] at HS0
    obtain ⟨RA, hRA⟩ : ∃ RA, altsF L ex (fuelP L) [A0] s4 = RA := ⟨_, rfl⟩
    have hR := HR.out
    rw [hA0] at hR
    simp only [hRA] at hR
    obtain ⟨F, hF⟩ : ∃ F, fuelP L = F := ⟨_, rfl⟩
    have hm := measP_le L s4
    rw [hF] at hRA hm
    have hF2 : F ≤ 1000002 := by unfold fuelP at hF; omega
    have HQ := Lib.hid (And.intro hR (And.intro hRA hm))
    clear hR hRA hm hA0 hF HR
    go_wp2_with fail
    go_loopg [] F (fun g wr => ∃ (acc : List TA) (st : PS) (v : Value), acc.length + g = F + 1 ∧ Hid (altsF L ex g acc st = RA ∧ measP L st + 1 ≤ g ∧ RowsAt AAt 13 120 B wr v acc ∧ PAt wr pb vT L st ∧ Blk wr (Tk + 1) #[.int .i64 7, .string ⟨#[]⟩, .bool false, .int .u64 0, .slice none 0 0, .slice (some ⟨Tk, 0, none⟩) 1 1, .slice none 0 0, v] 49 ∧ Fr (fun b => b = pb ∨ b = Tk + 1) w4 wr))
    case atStart => exact ⟨[A0], s4, v0, by simp; omega, Lib.hid ⟨HQ.out.2.1, HQ.out.2.2, HS0.out.1, HS0.out.2.1, HS0.out.2.2.1, HS0.out.2.2.2⟩⟩
    case round =>
     obtain ⟨acc, st, v, hg, HS⟩ := hrel
     obtain ⟨p0, p1, p2, p3, pf, pl⟩ := HS.out.2.2.2.1.facts
     obtain ⟨av, cv, rfl⟩ := HS.out.2.2.1.shape
     obtain ⟨f, hf⟩ : ∃ f, gk = f + 1 := ⟨gk - 1, by have := HS.out.2.1; omega⟩
     obtain ⟨cd, hcd⟩ : ∃ cd, decide (st.e = 0 ∧ seesF L [59] st = true) = cd := ⟨_, rfl⟩
     have HCD := Lib.hid hcd
     clear hcd
     go_upto_region 9 with fail
     go_cut [56] (fun sv wx => sv = .bool cd ∧ Fr Nil wr wx)
     case first =>
      by_cases he : st.e = 0
      · have i2 : (st.e : Int) = 0 := by omega
        rw [i2] at p2
        have hcc := HCD.out
        have hd1 : cd = seesF L [59] st := by rw [← hcc]; simp [he]
        have HS1 := Lib.hid (psees_any [59] HS.out.2.2.2.1)
        rw [← hd1] at HS1
        clear hcc hd1 i2
        go_wp2_with fail
        refine HS1.out.mono ?_
        rintro e w6 ⟨rfl, f6⟩
        go_wp2
        go_meet
        exact ⟨by simp, by exact frA⟩
      · have i2 : ¬ (st.e : Int) = 0 := by omega
        have d3 : ((st.e : Int) == 0) = false := by simpa using i2
        have hcc := HCD.out
        rw [decide_eq_false (fun q => he q.1)] at hcc
        subst hcc
        go_wp2
        go_meet
        exact ⟨by simp [d3], by exact frA⟩
     case rest =>
      obtain ⟨rfl, f6⟩ := hcut
      obtain ⟨w6, hw6⟩ : ∃ w6, wc = w6 := ⟨_, rfl⟩
      rw [hw6] at f6 ⊢
      clear hw6 p0 p1 p2 p3 pf pl
      have h6 := HS.out.2.2.2.1.fr f6
      have hR6 := HS.out.2.2.1.fr lawA f6 (fun _ q => q.elim)
      have bE6 := f6.blk HS.out.2.2.2.2.1 (fun q => q)
      have G6 := HS.out.2.2.2.2.2.via f6
      cases cd with
      | true =>
       obtain ⟨he, hse⟩ := of_decide_eq_true HCD.out
       have hl6 := sees_lt hse
       obtain ⟨p0, p1, p2, p3, pf, pl⟩ := h6.facts
       have j6 : IntKind.i64.wrap ((st.at_ : Int) + 1) = (st.at_ : Int) + 1 := by rw [IntKind.wrap_i64]; omega
       have hst := HS.out.1
       rw [hf] at hst
       unfold altsF at hst
       rw [if_pos ⟨he, hse⟩] at hst
       obtain ⟨A1, s6, hA1⟩ : ∃ A1 s6, altF L ex { st with at_ := st.at_ + 1 } = (A1, s6) := ⟨_, _, rfl⟩
       have hT : measP L s6 < measP L st := by
        have h := alt_goes (L := L) HP.out.2.2.2.2.1 { st with at_ := st.at_ + 1 }
        rw [hA1] at h
        exact measP_lt he hl6 h
       rw [hA1] at hst
       have HST := Lib.hid (And.intro hst (And.intro hA1 (show measP L s6 + 1 ≤ f from by have := HS.out.2.1; omega)))
       clear hst hT hA1 he hse
       go_upto_region 11 with fail
       obtain ⟨V2, hV2⟩ : ∃ V2, w6.setCell ⟨pb, 1, none⟩ (.int .i64 ((st.at_ : Int) + 1)) = V2 := ⟨_, rfl⟩
       rw [hV2]
       have fV2 : Fr (fun b => b = pb) w6 V2 := by rw [← hV2]; exact frG
       have bV2 : Blk V2 pb #[vT, .int .i64 ((st.at_ : Int) + 1), .int .i64 (st.e : Int), .int .i64 (st.line : Int)] 76 := by
        rw [← hV2]
        (unfold Blk; simp (disch := first | omega | (simp; done) | (simp; omega)) only [hp_drew, hp_drewN, hp_alloc, hp_other, hp_same, hp_new, upd_cells, Option.map_some, (h6.blk).eq])
        simp
       have GV : Fr (fun b => b = pb ∨ b = Tk + 1) w4 V2 := G6.comp (fV2.mono (fun _ _ q => .inl q))
       have hPV2 : PAt V2 pb vT L { st with at_ := st.at_ + 1 } := HP.out.1.keep (H4.out.1.trans GV (fun k hk2 q => by rcases q with q | q; exact q; omega)) (h6.to (t := { st with at_ := st.at_ + 1 }) fV2 bV2 hl6) (Fr.refl Nil _) (fun q => q)
       have hRV := hR6.fr lawA fV2 (fun b q => by have q' : b = pb := q; omega)
       have bEV := fV2.blk bE6 hneE
       obtain ⟨cl, hcl⟩ := hRV.cells
       have hX1 : Hid (PAt V2 pb vT L { st with at_ := st.at_ + 1 } ∧ Blk V2 (Tk + 1) #[.int .i64 7, .string ⟨#[]⟩, .bool false, .int .u64 0, .slice none 0 0, .slice (some ⟨Tk, 0, none⟩) 1 1, .slice none 0 0, .slice av acc.length cv] 49 ∧ V2.ownsRow B 120 13 (.slice av acc.length cv) acc.length cl) := ⟨hPV2, bEV, hcl⟩
       have HRV := Lib.hid (And.intro hRV GV)
       have p6 := bEV.cell 7
       simp at p6
       have Elt := bEV.lt
       have hsV := GV.size
       clear hV2 fV2 bV2 hPV2 hRV bEV hcl GV h6 hR6 bE6 G6 p0 p1 p2 p3 pf pl
       go_region_law (first
        | (refine step_push (w := wa) rfl (.tmp 65) (.tmp 69) 47 rfl B 120 i0 (.agg #[.int .i64 0, .string ⟨#[]⟩, .bool false, .int .u64 0, .slice none 0 0, .int .i64 0, .string ⟨#[]⟩, .bool false, .int .u64 0, .slice none 0 0, .slice none 0 0, .slice none 0 0, .slice none 0 0]) 13 200 Tryz.underlying47 hi hz0 hz1 hz2 rfl (by decide) (.slice av acc.length cv) acc.length cl (by simp [Act.eval, Act.put]) (owns_frS hX1.out.2.2 HA.out.2.1 (fun q z y => by have y' : q = pb := y; have := (hX1.out.2.2.lt q z).1; omega)) [.int .i64 (tk : Int), .string tn, .bool tf, .int .u64 (tb : Int), .slice pa pn pc, .int .i64 (k' : Int), .string nm', .bool fl', .int .u64 (bi' : Int), .slice b0 m0 d0, .slice b1 m1 d1, .slice b2 m2 d2, .slice b3 m3 d3] (by simp [Act.eval, Act.put]) rfl (by simp [Value.oneCell']) (by unfold maxLen; omega) (by omega) (by omega) ?_; intro v' w9 hown9 f9 hk9; have bE9 := f9.blk HA.out.2.2.1 (fun z => by have := (hX1.out.2.2.lt _ z).1; omega); have e6 := bE9.cell 7; simp at e6; have ef := bE9.free; have el := bE9.lt; obtain ⟨x9, y9, rfl⟩ := owns_shape hown9; have HO := Lib.hid (And.intro hown9 (And.intro f9 (And.intro hk9 bE9))); clear hown9 f9 hk9 bE9)
        | (go_simp; go_at_call 117; refine (palt_any (hX1.out.1.fr (by exact frA)) hd HP.out.2.2.2.2.2).mono ?_; rintro e wa ⟨va, rfl, hva, ha, fa⟩; have fa' : Fr (fun b => b = pb) V2 wa := Fr.trans (S := fun b => b = pb) (by exact frG) fa (fun _ _ q => q); obtain ⟨tk, tn, tf, tb, pa, pn, pc, k', nm', fl', bi', b0, m0, d0, b1, m1, d1, b2, m2, d2, b3, m3, d3, rfl, hAA⟩ := aval_form hva; have bEa := fa'.blk hX1.out.2.1 hneE; have pa6 := bEa.cell 7; simp at pa6; have Elt := bEa.lt; have hsa := fa'.size; have HA := Lib.hid (And.intro ha (And.intro fa' (And.intro bEa hAA))); clear ha fa fa' hva bEa hAA))
       all_goals
        have hAA := HA.out.2.2.2
        have hPA := HA.out.1
        rw [HST.out.2.1] at hAA hPA
        have E := row_end (Te := Tk + 1) lawA HP.out.1 H4.out.1 hB (by omega) (by omega) HRV.out.2 HRV.out.1 hPA HA.out.2.1 hAA hX1.out.2.2 HO.out.1 HO.out.2.1 HO.out.2.2.1 (wf := w9.setCell ⟨Tk + 1, 7, none⟩ (.slice x9 (acc.length + 1) y9)) (by exact frG)
        have bEF : Blk (w9.setCell ⟨Tk + 1, 7, none⟩ (.slice x9 (acc.length + 1) y9)) (Tk + 1) #[.int .i64 7, .string ⟨#[]⟩, .bool false, .int .u64 0, .slice none 0 0, .slice (some ⟨Tk, 0, none⟩) 1 1, .slice none 0 0, .slice x9 (acc.length + 1) y9] 49 := by
         (unfold Blk; simp (disch := first | omega | (simp; done) | (simp; omega)) only [hp_drew, hp_drewN, hp_alloc, hp_other, hp_same, hp_new, upd_cells, Option.map_some, (HO.out.2.2.2).eq])
         simp
        go_wp2_with fail
        go_roundg f
        case rel => exact ⟨acc ++ [A1], s6, .slice x9 (acc.length + 1) y9, by simp; omega, Lib.hid ⟨HST.out.1, HST.out.2.2, E.1, E.2.1, bEF, E.2.2.1⟩⟩
        case measure => omega
      | false =>
       have hno := of_decide_eq_false HCD.out
       have hst := HS.out.1
       rw [hf] at hst
       unfold altsF at hst
       rw [if_neg hno] at hst
       have hR := HQ.out.1
       rw [← hst] at hR
       have bK6 := G6.blk H4.out.2.2.1 (fun q => by rcases q with q | q <;> omega)
       have bT6 := G6.blk H4.out.2.2.2 (fun q => by rcases q with q | q <;> omega)
       have hE6 := H4.out.2.1.fr G6 (fun b q => by rcases q with q | q <;> omega)
       have F6 := H4.out.1.trans G6 (fun k hk2 q => by rcases q with q | q; exact q; omega)
       clear hno hst G6
       go_wp2_with fail
       refine (pneed_any [125] h6).mono ?_
       rintro e w7 ⟨rfl, h7, f7⟩
       have F7 := F6.comp f7
       have bK7 := f7.blk bK6 hneK
       have bT7 := f7.blk bT6 hne
       have bE7 := f7.blk bE6 hneE
       have hE7 := hE6.fr f7 (fun b q => by have q' : b = pb := q; omega)
       have hR7 := hR6.fr lawA f7 (fun b q => by have q' : b = pb := q; omega)
       obtain ⟨ac, hac, hac2⟩ := hR7.row lawA
       have Ec := bE7.cell
       have Ef := bE7.free
       have El := bE7.lt
       have Tc := bT7.cell
       have Tf := bT7.free
       have Tl := bT7.lt
       have fin : Hid (∀ wf, Fr (fun b => b = T) w7 wf → ∃ v', Ending.returned (.agg #[.int .i64 7, .string ⟨#[]⟩, .bool false, .int .u64 0, .slice none 0 0, .slice (some ⟨Tk, 0, none⟩) 1 1, .slice none 0 0, .slice av acc.length cv]) = .returned v' ∧ EVal (fun b => b < T) wf v' R.1 ∧ PAt wf pb vT L R.2 ∧ Fr (fun b => b = pb) w wf) := fun wf g => by
        rw [← hR]
        have FF : Fr (fun b => b = pb) w wf := F7.trans g (fun b hb q => by have q' : b = T := q; omega)
        have hk := g.blk bK7 (fun q => by have q' : Tk = T := q; omega)
        refine ⟨_, rfl, ⟨_, rfl, EAt.rows (kids := [t0]) (alts := acc) (binds := []) (params := []) (kc := fun _ => eC k nm fl bi a0 n0 c0 a1 n1 c1 a2 n2 c2 a3 n3 c3) (ac := ac) (bc := fun _ => []) 7 [] RowC.nil (RowC.one hk rfl (by omega)) (fun i hi => ?_) .nil (fun i h => absurd h (Nat.not_lt_zero i)) ((hac.fr g (fun b q => by have q' : b = T := q; omega)).mono (by decide) (fun b _ q => by omega)) (fun i h => lawA.mono (lawA.fr (hac2 i h) g (fun b q => by have q' : b = T := q; omega)) (fun b _ q => by omega))⟩, HP.out.1.keep FF h7 g (fun q => by have q' : pb = T := q; omega), FF⟩
        have e : i = 0 := by simp at hi; exact hi
        subst e
        exact (hE7.fr g (fun b q => by have q' : b = T := q; omega)).mono (fun b _ q => by omega)
       clear h7 F7 F6 hE7 hE6 bK7 bT7 bE7 bK6 bT6 hR7 hac hac2 hR f7 h6 hR6 bE6
       go_wp2
       (try simp only [Exit.inBlock, Exit.then])
       refine bodyPost_ret (v := .agg #[.int .i64 7, .string ⟨#[]⟩, .bool false, .int .u64 0, .slice none 0 0, .slice (some ⟨Tk, 0, none⟩) 1 1, .slice none 0 0, .slice av acc.length cv]) (by simp [results, Tryz.results94, go_sem, *]) rfl ?_
       exact fin.out _ (by exact frG)
end
end Go.Proofs.YtlnmicddobgppaaGreatDoor
