/-
  An expression (layer 8): a fault, too deep, a choice. No conditions.
-/
import Derived.Test.YtlnmicddobgppaaGreatDoorNnG
import Derived.Test.YtlnmicddobgppaaGreatDoorNnA
namespace Go.Proofs.YtlnmicddobgppaaGreatDoor
set_option maxRecDepth 100000
set_option linter.unusedSimpArgs false
set_option linter.unusedVariables false
open Go.RowKit
section
variable {w : World} {pb : Nat} {vT : Value} {L : List TokV} {s : PS} {deep : Nat} {ex : PS → TE × PS}
set_option maxHeartbeats 8000000 in
theorem pexpr_err (h : PAt w pb vT L s) (he : s.e ≠ 0) :
 Calls Tryz.prog 61 #[.pointer (some ⟨pb, 0, none⟩), .int .i64 (deep : Int)] w fun r w' => ∃ v, r = .returned v ∧ EVal (fun b => b < w.heap.size) w' v zeroE ∧ PAt w' pb vT L s ∧ Fr (fun b => b = pb) w w' := by
 obtain ⟨p0, p1, p2, p3, pf, pl⟩ := h.facts
 have hpl := h.blk.lt
 have HP := Lib.hid h
 obtain ⟨T, hT⟩ : ∃ T, w.heap.size = T := ⟨_, rfl⟩
 rw [hT] at hpl ⊢
 have hne : T ≠ pb := by omega
 have i2 : ¬ (s.e : Int) = 0 := by omega
 have d2 : ((s.e : Int) != 0) = true := by simpa using i2
 clear h
 go_enter Tryz.func61, Tryz.ntmps61
 have bT0 := Blk.new w #[.int .i64 0, .string ⟨#[]⟩, .bool false, .int .u64 0, .slice none 0 0, .slice none 0 0, .slice none 0 0, .slice none 0 0] 49
 rw [hT] at bT0
 have f0 : Fr Nil w (w.alloc (.cells #[.int .i64 0, .string ⟨#[]⟩, .bool false, .int .u64 0, .slice none 0 0, .slice none 0 0, .slice none 0 0, .slice none 0 0] 49)) := by exact frA
 have F0 : Fr (fun b => b = pb) w (w.alloc (.cells #[.int .i64 0, .string ⟨#[]⟩, .bool false, .int .u64 0, .slice none 0 0, .slice none 0 0, .slice none 0 0, .slice none 0 0] 49)) := Fr.of_nil f0
 have h0 := HP.out.fr f0
 have fin : Hid (∀ wf, Fr (fun b => b = T) (w.alloc (.cells #[.int .i64 0, .string ⟨#[]⟩, .bool false, .int .u64 0, .slice none 0 0, .slice none 0 0, .slice none 0 0, .slice none 0 0] 49)) wf → ∃ v', Ending.returned (.agg #[.int .i64 0, .string ⟨#[]⟩, .bool false, .int .u64 0, .slice none 0 0, .slice none 0 0, .slice none 0 0, .slice none 0 0]) = .returned v' ∧ EVal (fun b => b < T) wf v' zeroE ∧ PAt wf pb vT L s ∧ Fr (fun b => b = pb) w wf) := fun wf g => by
  have FF : Fr (fun b => b = pb) w wf := F0.trans g (fun b hb q => by have q' : b = T := q; omega)
  exact ⟨_, rfl, ⟨_, rfl, EAt.zero⟩, HP.out.keep FF h0 g (fun q => hne q.symm), FF⟩
 clear bT0 f0 F0 h0
 go_wp2
 (try simp only [Exit.inBlock, Exit.then])
 refine bodyPost_ret (v := .agg #[.int .i64 0, .string ⟨#[]⟩, .bool false, .int .u64 0, .slice none 0 0, .slice none 0 0, .slice none 0 0, .slice none 0 0]) (by simp [results, Tryz.results61, go_sem, *]) rfl ?_
 exact fin.out _ (by exact frG)
set_option maxHeartbeats 8000000 in
theorem pexpr_deep (h : PAt w pb vT L s) (he : s.e = 0) (hd : 200 < deep) :
 Calls Tryz.prog 61 #[.pointer (some ⟨pb, 0, none⟩), .int .i64 (deep : Int)] w fun r w' => ∃ v, r = .returned v ∧ EVal (fun b => b < w.heap.size) w' v zeroE ∧ PAt w' pb vT L (faultF L 3 (if startsF L s = true then faultF L 12 s else s)) ∧ Fr (fun b => b = pb) w w' := by
 obtain ⟨p0, p1, p2, p3, pf, pl⟩ := h.facts
 have hpl := h.blk.lt
 have HP := Lib.hid h
 obtain ⟨T, hT⟩ : ∃ T, w.heap.size = T := ⟨_, rfl⟩
 rw [hT] at hpl ⊢
 have hne : T ≠ pb := by omega
 have i2 : (s.e : Int) = 0 := by omega
 rw [i2] at p2
 have i3 : (200 : Int) < (deep : Int) := by omega
 obtain ⟨B, hB⟩ : ∃ B, startsF L s = B := ⟨_, rfl⟩
 rw [hB]
 have HB := Lib.hid hB
 clear hB
 clear h
 go_enter Tryz.func61, Tryz.ntmps61
 go_upto_region 1 with fail
 obtain ⟨W0, hW0⟩ : ∃ W0, w.alloc (.cells #[.int .i64 0, .string ⟨#[]⟩, .bool false, .int .u64 0, .slice none 0 0, .slice none 0 0, .slice none 0 0, .slice none 0 0] 49) = W0 := ⟨_, rfl⟩
 have f0 : Fr Nil w W0 := by rw [← hW0]; exact frA
 have bT0 : Blk W0 T #[.int .i64 0, .string ⟨#[]⟩, .bool false, .int .u64 0, .slice none 0 0, .slice none 0 0, .slice none 0 0, .slice none 0 0] 49 := by
  rw [← hW0]
  have h := Blk.new w #[.int .i64 0, .string ⟨#[]⟩, .bool false, .int .u64 0, .slice none 0 0, .slice none 0 0, .slice none 0 0, .slice none 0 0] 49
  rw [hT] at h
  exact h
 have h0 := HP.out.fr f0
 rw [hW0]
 have p2 := f0.cell p2 (by simp [Nil])
 have pl0 := f0.lt pl
 clear hW0 p0 p1 p3 pf
 go_wp2_with fail
 refine (pstarts_any h0).mono ?_
 rw [HB.out]
 rintro e w1 ⟨rfl, f1⟩
 have h1 := h0.fr f1
 have bT1 := f1.blk bT0 (fun q => q)
 have F1 : Fr (fun b => b = pb) w w1 := Fr.of_nil (f0.comp f1)
 clear p2 f1 f0 bT0 h0 pl0 pl
 cases B with
 | true =>
  go_wp2_with fail
  refine (pfault_any 12 h1).mono ?_
  rintro e w2 ⟨rfl, h2, f2⟩
  have bT2 := f2.blk bT1 hne
  have F2 := F1.comp f2
  clear f2 h1 bT1 F1
  go_wp2_with fail
  refine (pfault_any 3 h2).mono ?_
  rintro e w3 ⟨rfl, h3, f3⟩
  have bT3 := f3.blk bT2 hne
  have F3 := F2.comp f3
  clear f3 h2 bT2 F2
  have Tc := bT3.cell
  have Tf := bT3.free
  have Tl := bT3.lt
  have fin : Hid (∀ wf, Fr (fun b => b = T) w3 wf → ∃ v', Ending.returned (.agg #[.int .i64 0, .string ⟨#[]⟩, .bool false, .int .u64 0, .slice none 0 0, .slice none 0 0, .slice none 0 0, .slice none 0 0]) = .returned v' ∧ EVal (fun b => b < T) wf v' zeroE ∧ PAt wf pb vT L (faultF L 3 (faultF L 12 s)) ∧ Fr (fun b => b = pb) w wf) := fun wf g => by
   have FF : Fr (fun b => b = pb) w wf := F3.trans g (fun b hb q => by have q' : b = T := q; omega)
   exact ⟨_, rfl, ⟨_, rfl, EAt.zero⟩, HP.out.keep FF h3 g (fun q => hne q.symm), FF⟩
  go_wp2
  (try simp only [Exit.inBlock, Exit.then])
  refine bodyPost_ret (v := .agg #[.int .i64 0, .string ⟨#[]⟩, .bool false, .int .u64 0, .slice none 0 0, .slice none 0 0, .slice none 0 0, .slice none 0 0]) (by simp [results, Tryz.results61, go_sem, *]) rfl ?_
  exact fin.out _ (by exact frG)
 | false =>
  go_wp2_with fail
  refine (pfault_any 3 h1).mono ?_
  rintro e w3 ⟨rfl, h3, f3⟩
  have bT3 := f3.blk bT1 hne
  have F3 := F1.comp f3
  clear f3 h1 bT1 F1
  have Tc := bT3.cell
  have Tf := bT3.free
  have Tl := bT3.lt
  have fin : Hid (∀ wf, Fr (fun b => b = T) w3 wf → ∃ v', Ending.returned (.agg #[.int .i64 0, .string ⟨#[]⟩, .bool false, .int .u64 0, .slice none 0 0, .slice none 0 0, .slice none 0 0, .slice none 0 0]) = .returned v' ∧ EVal (fun b => b < T) wf v' zeroE ∧ PAt wf pb vT L (faultF L 3 s) ∧ Fr (fun b => b = pb) w wf) := fun wf g => by
   have FF : Fr (fun b => b = pb) w wf := F3.trans g (fun b hb q => by have q' : b = T := q; omega)
   exact ⟨_, rfl, ⟨_, rfl, EAt.zero⟩, HP.out.keep FF h3 g (fun q => hne q.symm), FF⟩
  go_wp2
  (try simp only [Exit.inBlock, Exit.then])
  refine bodyPost_ret (v := .agg #[.int .i64 0, .string ⟨#[]⟩, .bool false, .int .u64 0, .slice none 0 0, .slice none 0 0, .slice none 0 0, .slice none 0 0]) (by simp [results, Tryz.results61, go_sem, *]) rfl ?_
  exact fin.out _ (by exact frG)
set_option maxHeartbeats 8000000 in
theorem pexpr_case (h : PAt w pb vT L s) (he : s.e = 0) (hd : deep ≤ 200) (hl : seesF L [108, 101, 116] s = false) (hc : seesF L [99, 97, 115, 101] s = true) (hgo : ∀ s, Goes L s (ex s).2) (hex : Reads pb vT L 61 ((deep : Int) + 1) ex) :
 Calls Tryz.prog 61 #[.pointer (some ⟨pb, 0, none⟩), .int .i64 (deep : Int)] w fun r w' => ∃ v, r = .returned v ∧ EVal (fun b => b < w.heap.size) w' v (choiceF L ex s).1 ∧ PAt w' pb vT L (choiceF L ex s).2 ∧ Fr (fun b => b = pb) w w' := by
 obtain ⟨p0, p1, p2, p3, pf, pl⟩ := h.facts
 have hpl := h.blk.lt
 have HP := Lib.hid h
 obtain ⟨T, hT⟩ : ∃ T, w.heap.size = T := ⟨_, rfl⟩
 rw [hT] at hpl ⊢
 have hne : T ≠ pb := by omega
 have i2 : (s.e : Int) = 0 := by omega
 rw [i2] at p2
 have i3 : ¬ (200 : Int) < (deep : Int) := by omega
 have hlt := sees_lt hc
 clear h
 go_enter Tryz.func61, Tryz.ntmps61
 go_upto_region 1 with fail
 obtain ⟨W0, hW0⟩ : ∃ W0, w.alloc (.cells #[.int .i64 0, .string ⟨#[]⟩, .bool false, .int .u64 0, .slice none 0 0, .slice none 0 0, .slice none 0 0, .slice none 0 0] 49) = W0 := ⟨_, rfl⟩
 have f0 : Fr Nil w W0 := by rw [← hW0]; exact frA
 have bT0 : Blk W0 T #[.int .i64 0, .string ⟨#[]⟩, .bool false, .int .u64 0, .slice none 0 0, .slice none 0 0, .slice none 0 0, .slice none 0 0] 49 := by
  rw [← hW0]
  have h := Blk.new w #[.int .i64 0, .string ⟨#[]⟩, .bool false, .int .u64 0, .slice none 0 0, .slice none 0 0, .slice none 0 0, .slice none 0 0] 49
  rw [hT] at h
  exact h
 have h0 := HP.out.fr f0
 rw [hW0]
 have p2 := f0.cell p2 (by simp [Nil])
 have pl0 := f0.lt pl
 clear hW0 p0 p1 p3 pf
 go_wp2_with fail
 refine (psees_any [108, 101, 116] h0).mono ?_
 rw [hl]
 rintro e w1 ⟨rfl, f1⟩
 have h1 := h0.fr f1
 have bT1 := f1.blk bT0 (fun q => q)
 have F1 : Fr (fun b => b = pb) w w1 := Fr.of_nil (f0.comp f1)
 clear p2 pl0 pl f0 h0 bT0 f1
 go_wp2_with fail
 refine (psees_any [99, 97, 115, 101] h1).mono ?_
 rw [hc]
 rintro e w2 ⟨rfl, f2⟩
 have h2 := h1.fr f2
 have bT2 := f2.blk bT1 (fun q => q)
 have F2 : Fr (fun b => b = pb) w w2 := F1.via f2
 clear F1 h1 bT1 f2
 have hTs := bT2.lt
 go_wp2_with fail
 refine (pchoice_any h2 hlt (by omega) hgo hex).mono ?_
 rintro e w3 ⟨ve, rfl, he2, h3, f3⟩
 have bT3 := f3.blk bT2 hne
 have F3 := F2.comp f3
 obtain ⟨cs, rfl, hE⟩ := he2
 obtain ⟨k, nm, fl, bi, a0, n0, c0, a1, n1, c1, a2, n2, c2, a3, n3, c3, rfl⟩ := hE.form
 clear f3 bT2 F2 h2
 have Tc := bT3.cell
 have Tf := bT3.free
 have Tl := bT3.lt
 have fin : Hid (∀ wf, Fr (fun b => b = T) w3 wf → ∃ v', Ending.returned (.agg (eC k nm fl bi a0 n0 c0 a1 n1 c1 a2 n2 c2 a3 n3 c3).toArray) = .returned v' ∧ EVal (fun b => b < T) wf v' ((choiceF L ex s).1) ∧ PAt wf pb vT L ((choiceF L ex s).2) ∧ Fr (fun b => b = pb) w wf) := fun wf g => by
  have FF : Fr (fun b => b = pb) w wf := F3.trans g (fun b hb q => by have q' : b = T := q; omega)
  exact ⟨_, rfl, ⟨_, rfl, (hE.fr g (fun b q => by have q' : b = T := q; omega)).mono (fun b _ q => by omega)⟩, HP.out.keep FF h3 g (fun q => hne q.symm), FF⟩
 clear h3 bT3 F3 hE
 unfold eC
 go_wp2
 (try simp only [Exit.inBlock, Exit.then])
 refine bodyPost_ret (v := .agg (eC k nm fl bi a0 n0 c0 a1 n1 c1 a2 n2 c2 a3 n3 c3).toArray) (by simp [results, Tryz.results61, go_sem, eC, *]) rfl ?_
 exact fin.out _ (by exact frG)
end
section
variable {w : World} {pb : Nat} {vT : Value} {L : List TokV} {s : PS} {deep : Nat} {ex : PS → TE × PS}
set_option maxHeartbeats 8000000 in
theorem pexpr_lam (h : PAt w pb vT L s) (he : s.e = 0) (hd : deep ≤ 200) (hl : seesF L [108, 101, 116] s = false) (hc : seesF L [99, 97, 115, 101] s = false) (hm : seesF L [92] s = true) (hex : Reads pb vT L 61 ((deep : Int) + 1) ex) :
 Calls Tryz.prog 61 #[.pointer (some ⟨pb, 0, none⟩), .int .i64 (deep : Int)] w fun r w' => ∃ v, r = .returned v ∧ EVal (fun b => b < w.heap.size) w' v (lamF L ex s).1 ∧ PAt w' pb vT L (lamF L ex s).2 ∧ Fr (fun b => b = pb) w w' := by
 obtain ⟨p0, p1, p2, p3, pf, pl⟩ := h.facts
 have hpl := h.blk.lt
 have HP := Lib.hid h
 obtain ⟨T, hT⟩ : ∃ T, w.heap.size = T := ⟨_, rfl⟩
 rw [hT] at hpl ⊢
 have hne : T ≠ pb := by omega
 have i2 : (s.e : Int) = 0 := by omega
 rw [i2] at p2
 have i3 : ¬ (200 : Int) < (deep : Int) := by omega
 have hlt := sees_lt hm
 have hszL := h.sz
 have j2 : IntKind.i64.wrap ((s.at_ : Int) + 1) = (s.at_ : Int) + 1 := by rw [IntKind.wrap_i64]; omega
 have j1 : IntKind.i64.wrap ((deep : Int) + 1) = (deep : Int) + 1 := by rw [IntKind.wrap_i64]; omega
 obtain ⟨ns, s1, hN⟩ : ∃ ns s1, namesF L (fuelP L) true [] { s with at_ := s.at_ + 1 } = (ns, s1) := ⟨_, _, rfl⟩
 have e0 : lamF L ex s = (.mk 8 [] false 0 ns [(ex (needF L [45, 62] s1)).1] [] [], (ex (needF L [45, 62] s1)).2) := by unfold lamF; rw [hN]
 rw [e0]
 have HN := Lib.hid hN
 clear hN e0
 clear h
 go_enter Tryz.func61, Tryz.ntmps61
 go_upto_region 1 with fail
 obtain ⟨W0, hW0⟩ : ∃ W0, w.alloc (.cells #[.int .i64 0, .string ⟨#[]⟩, .bool false, .int .u64 0, .slice none 0 0, .slice none 0 0, .slice none 0 0, .slice none 0 0] 49) = W0 := ⟨_, rfl⟩
 have f0 : Fr Nil w W0 := by rw [← hW0]; exact frA
 have bT0 : Blk W0 T #[.int .i64 0, .string ⟨#[]⟩, .bool false, .int .u64 0, .slice none 0 0, .slice none 0 0, .slice none 0 0, .slice none 0 0] 49 := by
  rw [← hW0]
  have h := Blk.new w #[.int .i64 0, .string ⟨#[]⟩, .bool false, .int .u64 0, .slice none 0 0, .slice none 0 0, .slice none 0 0, .slice none 0 0] 49
  rw [hT] at h
  exact h
 have h0 := HP.out.fr f0
 rw [hW0]
 have p2 := f0.cell p2 (by simp [Nil])
 have pl0 := f0.lt pl
 clear hW0 p0 p1 p3 pf
 go_wp2_with fail
 refine (psees_any [108, 101, 116] h0).mono ?_
 rw [hl]
 rintro e w1 ⟨rfl, f1⟩
 have h1 := h0.fr f1
 have bT1 := f1.blk bT0 (fun q => q)
 have F1 : Fr (fun b => b = pb) w w1 := Fr.of_nil (f0.comp f1)
 clear p2 pl0 pl f0 h0 bT0 f1
 go_wp2_with fail
 refine (psees_any [99, 97, 115, 101] h1).mono ?_
 rw [hc]
 rintro e w2 ⟨rfl, f2⟩
 have h2 := h1.fr f2
 have bT2 := f2.blk bT1 (fun q => q)
 have F2 : Fr (fun b => b = pb) w w2 := F1.via f2
 clear F1 h1 bT1 f2
 go_wp2_with fail
 refine (psees_any [92] h2).mono ?_
 rw [hm]
 rintro e w3 ⟨rfl, f3⟩
 have h3 := h2.fr f3
 have bT3 := f3.blk bT2 (fun q => q)
 have F3 : Fr (fun b => b = pb) w w3 := F2.via f3
 clear F2 h2 bT2 f3
 go_upto_region 20 with fail
 obtain ⟨p0, p1, p2, p3, pf, pl⟩ := h3.facts
 go_upto_region 21 with fail
 obtain ⟨V, hV⟩ : ∃ V, w3.setCell ⟨pb, 1, none⟩ (.int .i64 ((s.at_ : Int) + 1)) = V := ⟨_, rfl⟩
 rw [hV]
 have fV : Fr (fun b => b = pb) w3 V := by rw [← hV]; exact frG
 have bV : Blk V pb #[vT, .int .i64 ((s.at_ : Int) + 1), .int .i64 (s.e : Int), .int .i64 (s.line : Int)] 76 := by
  rw [← hV]
  (unfold Blk; simp (disch := first | omega | (simp; done) | (simp; omega)) only [hp_drew, hp_drewN, hp_alloc, hp_other, hp_same, hp_new, upd_cells, Option.map_some, (h3.blk).eq])
  simp
 have hPV : PAt V pb vT L { s with at_ := s.at_ + 1 } := h3.to fV bV hlt
 have bTV := fV.blk bT3 hne
 have FV := F3.comp fV
 have hTV := bTV.lt
 clear hV bV fV h3 bT3 F3 p0 p1 p2 p3 pf pl
 go_wp2_with fail
 refine (pnames_any true hPV).mono ?_
 rw [HN.out]
 rintro e w4 ⟨vl, rfl, hl4, h4, f4⟩
 have hl4 : RowS (fun b => b < V.heap.size) w4 vl ns := hl4
 have h4 : PAt w4 pb vT L s1 := h4
 obtain ⟨av, cv, rfl⟩ := RowC.shape hl4
 have F4 := FV.comp f4
 have bT4 := f4.blk bTV hne
 have hs4 := f4.size
 clear hPV bTV FV f4
 go_upto_region 22 with fail
 obtain ⟨Te, hTe⟩ : ∃ Te, w4.heap.size = Te := ⟨_, rfl⟩
 rw [hTe]
 obtain ⟨W4, hW4⟩ : ∃ W4, w4.alloc (.cells #[.int .i64 8, .string ⟨#[]⟩, .bool false, .int .u64 0, .slice av ns.length cv, .slice none 0 0, .slice none 0 0, .slice none 0 0] 49) = W4 := ⟨_, rfl⟩
 rw [hW4]
 have g4 : Fr Nil w4 W4 := by rw [← hW4]; exact frA
 have bE4 : Blk W4 Te #[.int .i64 8, .string ⟨#[]⟩, .bool false, .int .u64 0, .slice av ns.length cv, .slice none 0 0, .slice none 0 0, .slice none 0 0] 49 := by
  rw [← hW4]
  have h := Blk.new w4 #[.int .i64 8, .string ⟨#[]⟩, .bool false, .int .u64 0, .slice av ns.length cv, .slice none 0 0, .slice none 0 0, .slice none 0 0] 49
  rw [hTe] at h
  exact h
 have hneE : Te ≠ pb := by omega
 have hTT : T < Te := by omega
 have hl5 := RowS.fr (RowC.mono (Y := fun b => b < T + 1 ∨ Te ≤ b) hl4 (by decide) (fun b hb q => by rcases q with q | q <;> omega)) g4 (fun _ q => q.elim)
 have h4' := h4.fr g4
 have bT4' := g4.blk bT4 (fun q => q)
 have F4' := F4.via g4
 have hE4s := bE4.lt
 clear hW4 g4 hl4 h4 bT4 F4
 go_wp2_with fail
 refine (pneed_any [45, 62] h4').mono ?_
 rintro e w5 ⟨rfl, h5, f5⟩
 have F5 := F4'.comp f5
 have bT5 := f5.blk bT4' hne
 have bE5 := f5.blk bE4 hneE
 have hl6 := RowC.fr hl5 f5 (fun b q => by have q' : b = pb := q; omega)
 have hE5s := bE5.lt
 clear h4' bT4' bE4 hl5 f5 F4'
 go_wp2_with fail
 refine (hex _ _ h5).mono ?_
 rintro e w6 ⟨ve, rfl, he2, h6, f6⟩
 obtain ⟨cs, rfl, hE⟩ := he2
 obtain ⟨k, nm, fl, bi, a0, n0, c0, a1, n1, c1, a2, n2, c2, a3, n3, c3, rfl⟩ := hE.form
 have F6 := F5.comp f6
 have bT6 := f6.blk bT5 hne
 have bE6 := f6.blk bE5 hneE
 have hl7 := RowC.fr hl6 f6 (fun b q => by have q' : b = pb := q; omega)
 have hs6 := f6.size
 clear f6 h5 bT5 bE5 hl6 F5
 unfold eC
 obtain ⟨Tk, hTk⟩ : ∃ Tk, w6.heap.size = Tk := ⟨_, rfl⟩
 have Ec := bE6.cell
 have Ef := bE6.free
 have El := bE6.lt
 have ElK : Te < Tk := by omega
 go_upto_region 24 with fail
 obtain ⟨W6, hW6⟩ : ∃ W6, (w6.setCell ⟨Te, 5, none⟩ (.slice (some ⟨Tk, 0, none⟩) 1 1)).alloc (.cells #[.int .i64 (k : Int), .string nm, .bool fl, .int .u64 (bi : Int), .slice a0 n0 c0, .slice a1 n1 c1, .slice a2 n2 c2, .slice a3 n3 c3] 49) = W6 := ⟨_, rfl⟩
 rw [hW6]
 have g6 : Fr (fun b => b = Te) w6 W6 := by rw [← hW6]; exact frG
 have bK6 : Blk W6 Tk (eC k nm fl bi a0 n0 c0 a1 n1 c1 a2 n2 c2 a3 n3 c3).toArray 49 := by
  rw [← hW6]
  have h := Blk.new (w6.setCell ⟨Te, 5, none⟩ (.slice (some ⟨Tk, 0, none⟩) 1 1)) (eC k nm fl bi a0 n0 c0 a1 n1 c1 a2 n2 c2 a3 n3 c3).toArray 49
  rw [show (w6.setCell ⟨Te, 5, none⟩ (.slice (some ⟨Tk, 0, none⟩) 1 1)).heap.size = Tk by simp [World.setCell, hTk]] at h
  exact h
 have bE7 : Blk W6 Te #[.int .i64 8, .string ⟨#[]⟩, .bool false, .int .u64 0, .slice av ns.length cv, .slice (some ⟨Tk, 0, none⟩) 1 1, .slice none 0 0, .slice none 0 0] 49 := by
  rw [← hW6]
  (unfold Blk; simp (disch := first | omega | (simp; done) | (simp; omega)) only [hp_drew, hp_drewN, hp_alloc, hp_other, hp_same, hp_new, upd_cells, Option.map_some, (bE6).eq])
  simp
 have bT7 := g6.blk bT6 (fun q => by have q' : T = Te := q; omega)
 have hE7 := (hE.mono (Y := fun b => b < T + 1 ∨ b = Te) (fun b _ q => by rcases q with q | q <;> omega)).fr g6 (fun b q => by have q' : b = Te := q; omega)
 have hl8 := RowC.fr hl7 g6 (fun b q => by have q' : b = Te := q; omega)
 have h7 := HP.out.keep (F6.trans g6 (fun b hb q => by have q' : b = Te := q; omega)) h6 g6 (fun q => hneE q.symm)
 have F7 : Fr (fun b => b = pb) w W6 := F6.trans g6 (fun b hb q => by have q' : b = Te := q; omega)
 clear hW6 g6 Ec Ef El bE6 bT6 hE hl7 h6 F6
 have Ec := bE7.cell
 have Ef := bE7.free
 have El := bE7.lt
 have Tc := bT7.cell
 have Tf := bT7.free
 have Tl := bT7.lt
 have fin : Hid (∀ wf, Fr (fun b => b = T) W6 wf → ∃ v', Ending.returned (.agg #[.int .i64 8, .string ⟨#[]⟩, .bool false, .int .u64 0, .slice av ns.length cv, .slice (some ⟨Tk, 0, none⟩) 1 1, .slice none 0 0, .slice none 0 0]) = .returned v' ∧ EVal (fun b => b < T) wf v' (.mk 8 [] false 0 ns [(ex (needF L [45, 62] s1)).1] [] []) ∧ PAt wf pb vT L (ex (needF L [45, 62] s1)).2 ∧ Fr (fun b => b = pb) w wf) := fun wf g => by
  have FF : Fr (fun b => b = pb) w wf := F7.trans g (fun b hb q => by have q' : b = T := q; omega)
  have hk := g.blk bK6 (fun q => by have q' : Tk = T := q; omega)
  refine ⟨_, rfl, ⟨_, rfl, EAt.rows (kids := [(ex (needF L [45, 62] s1)).1]) (alts := []) (binds := []) (params := ns) (kc := fun _ => eC k nm fl bi a0 n0 c0 a1 n1 c1 a2 n2 c2 a3 n3 c3) (ac := fun _ => []) (bc := fun _ => []) 8 [] (RowC.mono (RowC.fr hl8 g (fun b q => by have q' : b = T := q; omega)) (by decide) (fun b _ q => by omega)) (RowC.one hk rfl (by omega)) (fun i hi => ?_) .nil (fun i h => absurd h (Nat.not_lt_zero i)) .nil (fun i h => absurd h (Nat.not_lt_zero i))⟩, HP.out.keep FF h7 g (fun q => hne q.symm), FF⟩
  have e : i = 0 := by simp at hi; exact hi
  subst e
  exact (hE7.fr g (fun b q => by have q' : b = T := q; omega)).mono (fun b _ q => by omega)
 clear bE7 bT7 bK6 hE7 hl8 h7 F7
 go_wp2
 (try simp only [Exit.inBlock, Exit.then])
 refine bodyPost_ret (v := .agg #[.int .i64 8, .string ⟨#[]⟩, .bool false, .int .u64 0, .slice av ns.length cv, .slice (some ⟨Tk, 0, none⟩) 1 1, .slice none 0 0, .slice none 0 0]) (by simp [results, Tryz.results61, go_sem, *]) rfl ?_
 exact fin.out _ (by exact frG)
end
theorem RowC.two {X : Nat → Prop} {w : World} {b : Nat} {c1 c2 : List Value} {t : TypeId} {size : Nat} (h : Blk w b (c1 ++ c2).toArray t) (h1 : c1.length = size) (h2 : c2.length = size) (hX : ¬ X b) : RowC X w (.slice (some ⟨b, 0, none⟩) 2 2) 2 size (fun i => if i = 0 then c1 else c2) :=
 ⟨_, 2, rfl, Nat.le_refl _, by unfold maxLen; omega, fun i hi => ⟨b, 0, rfl, hX, by dsimp only; split <;> assumption, fun j u hj => by
  rw [h.cell]
  have hi2 : i = 0 ∨ i = 1 := by omega
  rcases hi2 with rfl | rfl
  · simp only [if_true] at hj
    have hl := (List.getElem?_eq_some_iff.1 hj).1
    simp only [Nat.zero_mul, Nat.zero_add, List.getElem?_toArray]
    rw [List.getElem?_append_left hl]
    exact hj
  · simp only [Nat.one_ne_zero, if_false] at hj
    simp only [Nat.one_mul, Nat.zero_add, List.getElem?_toArray]
    rw [List.getElem?_append_right (by omega), h1, Nat.add_sub_cancel_left]
    exact hj⟩⟩
section
variable {w : World} {pb : Nat} {vT : Value} {L : List TokV} {s : PS} {deep : Nat} {ex : PS → TE × PS}
set_option maxHeartbeats 8000000 in
theorem pexpr_op (h : PAt w pb vT L s) (he : s.e = 0) (hd : deep ≤ 200) (hl : seesF L [108, 101, 116] s = false) (hc : seesF L [99, 97, 115, 101] s = false) (hm : seesF L [92] s = false) (hgo : ∀ s, Goes L s (ex s).2) (hex : Reads pb vT L 61 ((deep : Int) + 1) ex) :
 Calls Tryz.prog 61 #[.pointer (some ⟨pb, 0, none⟩), .int .i64 (deep : Int)] w fun r w' => ∃ v, r = .returned v ∧ EVal (fun b => b < w.heap.size) w' v (opF L ex s).1 ∧ PAt w' pb vT L (opF L ex s).2 ∧ Fr (fun b => b = pb) w w' := by
 obtain ⟨p0, p1, p2, p3, pf, pl⟩ := h.facts
 have hpl := h.blk.lt
 have HP := Lib.hid h
 obtain ⟨T, hT⟩ : ∃ T, w.heap.size = T := ⟨_, rfl⟩
 rw [hT] at hpl ⊢
 have hne : T ≠ pb := by omega
 have i2 : (s.e : Int) = 0 := by omega
 rw [i2] at p2
 have i3 : ¬ (200 : Int) < (deep : Int) := by omega
 obtain ⟨t1, s1, hN⟩ : ∃ t1 s1, rowF L ex s = (t1, s1) := ⟨_, _, rfl⟩
 obtain ⟨R, hR⟩ : ∃ R, opF L ex s = R := ⟨_, rfl⟩
 have hR2 : (if s1.e = 0 ∧ kindP L s1 = 4 then ((.mk 5 (tokenF L 4 s1).1.text false 0 [] [t1, (rowF L ex (tokenF L 4 s1).2).1] [] [] : TE), (rowF L ex (tokenF L 4 s1).2).2) else (t1, s1)) = R := by
  rw [← hR]
  unfold opF
  rw [hN]
 rw [hR]
 have HN := Lib.hid (And.intro hN hR2)
 have hf1 := run_tok1
 clear hN hR hR2
 clear h
 go_enter Tryz.func61, Tryz.ntmps61
 go_upto_region 1 with fail
 obtain ⟨W0, hW0⟩ : ∃ W0, w.alloc (.cells #[.int .i64 0, .string ⟨#[]⟩, .bool false, .int .u64 0, .slice none 0 0, .slice none 0 0, .slice none 0 0, .slice none 0 0] 49) = W0 := ⟨_, rfl⟩
 have f0 : Fr Nil w W0 := by rw [← hW0]; exact frA
 have bT0 : Blk W0 T #[.int .i64 0, .string ⟨#[]⟩, .bool false, .int .u64 0, .slice none 0 0, .slice none 0 0, .slice none 0 0, .slice none 0 0] 49 := by
  rw [← hW0]
  have h := Blk.new w #[.int .i64 0, .string ⟨#[]⟩, .bool false, .int .u64 0, .slice none 0 0, .slice none 0 0, .slice none 0 0, .slice none 0 0] 49
  rw [hT] at h
  exact h
 have h0 := HP.out.fr f0
 rw [hW0]
 have p2 := f0.cell p2 (by simp [Nil])
 have pl0 := f0.lt pl
 clear hW0 p0 p1 p3 pf
 go_wp2_with fail
 refine (psees_any [108, 101, 116] h0).mono ?_
 rw [hl]
 rintro e w1 ⟨rfl, f1⟩
 have h1 := h0.fr f1
 have bT1 := f1.blk bT0 (fun q => q)
 have F1 : Fr (fun b => b = pb) w w1 := Fr.of_nil (f0.comp f1)
 clear p2 pl0 pl f0 h0 bT0 f1
 go_wp2_with fail
 refine (psees_any [99, 97, 115, 101] h1).mono ?_
 rw [hc]
 rintro e w2 ⟨rfl, f2⟩
 have h2 := h1.fr f2
 have bT2 := f2.blk bT1 (fun q => q)
 have F2 : Fr (fun b => b = pb) w w2 := F1.via f2
 clear F1 h1 bT1 f2
 go_wp2_with fail
 refine (psees_any [92] h2).mono ?_
 rw [hm]
 rintro e w3 ⟨rfl, f3⟩
 have h3 := h2.fr f3
 have bT3 := f3.blk bT2 (fun q => q)
 have F3 : Fr (fun b => b = pb) w w3 := F2.via f3
 clear F2 h2 bT2 f3
 have hTs := bT3.lt
 go_wp2_with fail
 refine (prow_any h3 (by omega) hgo hex).mono ?_
 rw [HN.out.1]
 rintro e w4 ⟨ve, rfl, he2, h4, f4⟩
 have h4 : PAt w4 pb vT L s1 := h4
 obtain ⟨cs, rfl, hE⟩ := he2
 have hE : EAt (fun b => b < w3.heap.size) w4 cs t1 := hE
 obtain ⟨k, nm, fl, bi, a0, n0, c0, a1, n1, c1, a2, n2, c2, a3, n3, c3, rfl⟩ := hE.form
 have F4 := F3.comp f4
 have bT4 := f4.blk bT3 hne
 have hs4 := f4.size
 clear f4 h3 bT3 F3
 unfold eC
 go_upto_region 26 with fail
 obtain ⟨Te, hTe⟩ : ∃ Te, w4.heap.size = Te := ⟨_, rfl⟩
 rw [hTe]
 obtain ⟨W4, hW4⟩ : ∃ W4, w4.alloc (.cells #[.int .i64 (k : Int), .string nm, .bool fl, .int .u64 (bi : Int), .slice a0 n0 c0, .slice a1 n1 c1, .slice a2 n2 c2, .slice a3 n3 c3] 49) = W4 := ⟨_, rfl⟩
 rw [hW4]
 have g4 : Fr Nil w4 W4 := by rw [← hW4]; exact frA
 have bE4 : Blk W4 Te #[.int .i64 (k : Int), .string nm, .bool fl, .int .u64 (bi : Int), .slice a0 n0 c0, .slice a1 n1 c1, .slice a2 n2 c2, .slice a3 n3 c3] 49 := by
  rw [← hW4]
  have h := Blk.new w4 #[.int .i64 (k : Int), .string nm, .bool fl, .int .u64 (bi : Int), .slice a0 n0 c0, .slice a1 n1 c1, .slice a2 n2 c2, .slice a3 n3 c3] 49
  rw [hTe] at h
  exact h
 have hneE : Te ≠ pb := by omega
 have hTT : T < Te := by omega
 have h4' := h4.fr g4
 have bT4' := g4.blk bT4 (fun q => q)
 have F4' := F4.via g4
 have hE4 := (hE.mono (Y := fun b => b < T + 1) (fun b hb q => by omega)).fr g4 (fun _ q => q.elim)
 clear hW4 g4 h4 bT4 F4 hE
 obtain ⟨p0, p1, p2, p3, pf, pl⟩ := h4'.facts
 obtain ⟨cc, hcc⟩ : ∃ cc, decide (s1.e = 0 ∧ kindP L s1 = 4) = cc := ⟨_, rfl⟩
 have HCC := Lib.hid hcc
 have H4 := Lib.hid (And.intro h4' (And.intro bT4' (And.intro F4' (And.intro hE4 bE4))))
 clear hcc h4' bT4' F4' hE4 bE4
 go_cut [109] (fun sv wx => sv = .bool cc ∧ Fr Nil W4 wx)
 case first =>
  by_cases he : s1.e = 0
  · have i2 : (s1.e : Int) = 0 := by omega
    rw [i2] at p2
    have HK := Lib.hid (pkind_any H4.out.1)
    have hcc := HCC.out
    obtain ⟨kd, hkd⟩ : ∃ kd, kindP L s1 = kd := ⟨_, rfl⟩
    rw [hkd] at HK hcc
    by_cases hk : kd = 4
    · rw [decide_eq_true ⟨he, hk⟩] at hcc
      subst hcc hk
      clear i2
      go_wp2_with fail
      refine HK.out.mono ?_
      rintro e w5 ⟨rfl, f5⟩
      go_wp2
      go_meet
      exact ⟨by simp, by exact frA⟩
    · rw [decide_eq_false (fun q => hk q.2)] at hcc
      subst hcc
      have d1 := decide_eq_false hk
      have d2 : (kd == 4) = false := by simpa using hk
      clear i2
      go_wp2_with fail
      refine HK.out.mono ?_
      rintro e w5 ⟨rfl, f5⟩
      go_wp2
      go_meet
      exact ⟨by simp [d2], by exact frA⟩
  · have i2 : ¬ (s1.e : Int) = 0 := by omega
    have d3 : ((s1.e : Int) == 0) = false := by simpa using i2
    have hcc := HCC.out
    rw [decide_eq_false (fun q => he q.1)] at hcc
    subst hcc
    go_wp2
    go_meet
    exact ⟨by simp [d3], by exact frA⟩
 case rest =>
  obtain ⟨rfl, f5⟩ := hcut
  obtain ⟨w5, hw5⟩ : ∃ w5, wc = w5 := ⟨_, rfl⟩
  rw [hw5] at f5 ⊢
  clear hw5 p0 p1 p2 p3 pf pl
  have h5 := H4.out.1.fr f5
  have bT5 := f5.blk H4.out.2.1 (fun q => q)
  have F5 := H4.out.2.2.1.via f5
  have hE5 := H4.out.2.2.2.1.fr f5 (fun _ q => q.elim)
  have bE5 := f5.blk H4.out.2.2.2.2 (fun q => q)
  clear f5 H4
  cases cc with
  | false =>
   have hno := of_decide_eq_false HCC.out
   have hR := HN.out.2
   rw [if_neg hno] at hR
   subst hR
   have Ec := bE5.cell
   have Ef := bE5.free
   have El := bE5.lt
   have Tc := bT5.cell
   have Tf := bT5.free
   have Tl := bT5.lt
   have fin : Hid (∀ wf, Fr (fun b => b = T) w5 wf → ∃ v', Ending.returned (.agg (eC k nm fl bi a0 n0 c0 a1 n1 c1 a2 n2 c2 a3 n3 c3).toArray) = .returned v' ∧ EVal (fun b => b < T) wf v' (t1) ∧ PAt wf pb vT L (s1) ∧ Fr (fun b => b = pb) w wf) := fun wf g => by
    have FF : Fr (fun b => b = pb) w wf := F5.trans g (fun b hb q => by have q' : b = T := q; omega)
    exact ⟨_, rfl, ⟨_, rfl, (hE5.fr g (fun b q => by have q' : b = T := q; omega)).mono (fun b _ q => by omega)⟩, HP.out.keep FF h5 g (fun q => hne q.symm), FF⟩
   clear h5 bT5 F5 hE5 bE5
   try unfold eC
   go_wp2
   (try simp only [Exit.inBlock, Exit.then])
   refine bodyPost_ret (v := .agg (eC k nm fl bi a0 n0 c0 a1 n1 c1 a2 n2 c2 a3 n3 c3).toArray) (by simp [results, Tryz.results61, go_sem, eC, *]) rfl ?_
   exact fin.out _ (by exact frG)
  | true =>
   obtain ⟨he, hk⟩ := of_decide_eq_true HCC.out
   have hR := HN.out.2
   rw [if_pos ⟨he, hk⟩] at hR
   obtain ⟨tk, s2, hts⟩ : ∃ tk s2, tokenF L 4 s1 = (tk, s2) := ⟨_, _, rfl⟩
   obtain ⟨t2, s3, hrs⟩ : ∃ t2 s3, rowF L ex s2 = (t2, s3) := ⟨_, _, rfl⟩
   simp only [hts, hrs] at hR
   have HTS := Lib.hid (And.intro hts (And.intro hrs hR))
   clear hts hrs hR he hk
   go_wp2_with fail
   refine (ptoken_any 4 (by decide) h5).mono ?_
   rw [HTS.out.1]
   rintro e w6 ⟨rfl, h6, f6⟩
   unfold tokV
   have h6 : PAt w6 pb vT L s2 := h6
   have bT6 := f6.blk bT5 hne
   have bE6 := f6.blk bE5 hneE
   have F6 := F5.comp f6
   have hE6 := hE5.fr f6 (fun b q => by have q' : b = pb := q; omega)
   have Ec := bE6.cell
   have Ef := bE6.free
   have El := bE6.lt
   have HX := Lib.hid (And.intro h6 (And.intro bT6 (And.intro bE6 (And.intro F6 hE6))))
   clear h5 bT5 F5 hE5 bE5 f6 h6 bT6 bE6 F6 hE6
   go_upto_region 28 with fail
   go_region_law (first
    | (go_simp; go_at_call 95; refine (prow_any (HX.out.1.fr (by exact frA)) (by omega) hgo hex).mono ?_; rw [HTS.out.2.1]; rintro e wa ⟨va, rfl, hva, ha, fa⟩; have fa' : Fr (fun b => b = pb) w6 wa := Fr.trans (S := fun b => b = pb) (by exact frG) fa (fun _ _ q => q); obtain ⟨cs, rfl, hEa⟩ := hva; have hEa : EAt (fun b => b < w6.heap.size) wa cs t2 := hEa; obtain ⟨k', nm', fl', bi', b0, m0, d0, b1, m1, d1, b2, m2, d2, b3, m3, d3, rfl⟩ := hEa.form; unfold eC; have bTa := fa'.blk HX.out.2.1 hne; have bEa := fa'.blk HX.out.2.2.1 hneE; have Ac := bEa.cell; have Af := bEa.free; have Al := bEa.lt; have Tc := bTa.cell; have Tf := bTa.free; have Tl := bTa.lt; have HA := Lib.hid (And.intro ha (And.intro fa' (And.intro hEa bTa))); clear ha fa fa' bTa bEa hEa)
    | fail)
   all_goals
    obtain ⟨Tk, hTk⟩ : ∃ Tk, wa.heap.size = Tk := ⟨_, rfl⟩
    have hwa := HA.out.2.1.size
    have bK : Blk ((((((((((wa).setCell ⟨T, 0, none⟩ (.int .i64 5)).setCell ⟨T, 1, none⟩ (.string ⟨tk.text.toArray⟩)).setCell ⟨T, 2, none⟩ (.bool false)).setCell ⟨T, 3, none⟩ (.int .u64 0)).setCell ⟨T, 4, none⟩ (.slice none 0 0)).setCell ⟨T, 5, none⟩ (.slice (some ⟨Tk, 0, none⟩) 2 2)).setCell ⟨T, 6, none⟩ (.slice none 0 0)).setCell ⟨T, 7, none⟩ (.slice none 0 0)).alloc (.cells #[.int .i64 (k : Int), .string nm, .bool fl, .int .u64 (bi : Int), .slice a0 n0 c0, .slice a1 n1 c1, .slice a2 n2 c2, .slice a3 n3 c3, .int .i64 (k' : Int), .string nm', .bool fl', .int .u64 (bi' : Int), .slice b0 m0 d0, .slice b1 m1 d1, .slice b2 m2 d2, .slice b3 m3 d3] 49)) Tk (eC k nm fl bi a0 n0 c0 a1 n1 c1 a2 n2 c2 a3 n3 c3 ++ eC k' nm' fl' bi' b0 m0 d0 b1 m1 d1 b2 m2 d2 b3 m3 d3).toArray 49 := by
     have h := Blk.new (((((((((wa).setCell ⟨T, 0, none⟩ (.int .i64 5)).setCell ⟨T, 1, none⟩ (.string ⟨tk.text.toArray⟩)).setCell ⟨T, 2, none⟩ (.bool false)).setCell ⟨T, 3, none⟩ (.int .u64 0)).setCell ⟨T, 4, none⟩ (.slice none 0 0)).setCell ⟨T, 5, none⟩ (.slice (some ⟨Tk, 0, none⟩) 2 2)).setCell ⟨T, 6, none⟩ (.slice none 0 0)).setCell ⟨T, 7, none⟩ (.slice none 0 0)) #[.int .i64 (k : Int), .string nm, .bool fl, .int .u64 (bi : Int), .slice a0 n0 c0, .slice a1 n1 c1, .slice a2 n2 c2, .slice a3 n3 c3, .int .i64 (k' : Int), .string nm', .bool fl', .int .u64 (bi' : Int), .slice b0 m0 d0, .slice b1 m1 d1, .slice b2 m2 d2, .slice b3 m3 d3] 49
     rw [show (((((((((wa).setCell ⟨T, 0, none⟩ (.int .i64 5)).setCell ⟨T, 1, none⟩ (.string ⟨tk.text.toArray⟩)).setCell ⟨T, 2, none⟩ (.bool false)).setCell ⟨T, 3, none⟩ (.int .u64 0)).setCell ⟨T, 4, none⟩ (.slice none 0 0)).setCell ⟨T, 5, none⟩ (.slice (some ⟨Tk, 0, none⟩) 2 2)).setCell ⟨T, 6, none⟩ (.slice none 0 0)).setCell ⟨T, 7, none⟩ (.slice none 0 0)).heap.size = Tk by simp [World.setCell, hTk]] at h
     exact h
    have fin : Hid (∀ wf, Fr (fun b => b = T) wa wf → Blk wf Tk (eC k nm fl bi a0 n0 c0 a1 n1 c1 a2 n2 c2 a3 n3 c3 ++ eC k' nm' fl' bi' b0 m0 d0 b1 m1 d1 b2 m2 d2 b3 m3 d3).toArray 49 → ∃ v', Ending.returned (.agg #[.int .i64 5, .string ⟨tk.text.toArray⟩, .bool false, .int .u64 0, .slice none 0 0, .slice (some ⟨Tk, 0, none⟩) 2 2, .slice none 0 0, .slice none 0 0]) = .returned v' ∧ EVal (fun b => b < T) wf v' R.1 ∧ PAt wf pb vT L R.2 ∧ Fr (fun b => b = pb) w wf) := fun wf g hb => by
     rw [← HTS.out.2.2]
     have Fa := HX.out.2.2.2.1.comp HA.out.2.1
     have FF : Fr (fun b => b = pb) w wf := Fa.trans g (fun b hb q => by have q' : b = T := q; omega)
     refine ⟨_, rfl, ⟨_, rfl, EAt.app 5 tk.text (ks := [t1, t2]) (kc := fun i => if i = 0 then eC k nm fl bi a0 n0 c0 a1 n1 c1 a2 n2 c2 a3 n3 c3 else eC k' nm' fl' bi' b0 m0 d0 b1 m1 d1 b2 m2 d2 b3 m3 d3) (RowC.two hb rfl rfl (by omega)) (fun i hi => ?_)⟩, HP.out.keep FF HA.out.1 g (fun q => hne q.symm), FF⟩
     have hi2 : i = 0 ∨ i = 1 := by simp at hi; omega
     rcases hi2 with rfl | rfl
     · simp only [if_true, List.getElem_cons_zero]
       exact ((HX.out.2.2.2.2.fr HA.out.2.1 (fun b q => by have q' : b = pb := q; omega)).fr g (fun b q => by have q' : b = T := q; omega)).mono (fun b _ q => by omega)
     · simp only [Nat.one_ne_zero, if_false, List.getElem_cons_succ, List.getElem_cons_zero]
       exact (HA.out.2.2.1.fr g (fun b q => by have q' : b = T := q; omega)).mono (fun b _ q => by omega)
    have TlK : T < Tk := by omega
    rw [hTk]
    go_wp2_with fail
    (try simp only [Exit.inBlock, Exit.then])
    refine bodyPost_ret (v := .agg #[.int .i64 5, .string ⟨tk.text.toArray⟩, .bool false, .int .u64 0, .slice none 0 0, .slice (some ⟨Tk, 0, none⟩) 2 2, .slice none 0 0, .slice none 0 0]) (by simp [results, Tryz.results61, go_sem, *]) rfl ?_
    exact fin.out _ (by exact frG) bK
end
end Go.Proofs.YtlnmicddobgppaaGreatDoor
