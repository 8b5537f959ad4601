/-
  The document's show (layer 9): alternatives, given the texts of what lies within. No conditions.
  The document's show (layer 9): an expression, by kinds. No conditions.
  The document's show (layer 9): signs and lambdas. No conditions.
  The document's show (layer 9): one applied to others. No conditions.
-/
import Derived.Test.YtpjlibbdngnnnaaDoorRsA
import Derived.Deep.RegionHeld3
namespace Go.Proofs.YtpjlibbdngnnnaaDoor
set_option linter.unusedSimpArgs false
set_option linter.unusedVariables false
open Go.RowKit

set_option maxRecDepth 100000 in
set_option maxHeartbeats 4000000 in
theorem ralt_num {w : World} {c : List Value} {n : List UInt8} {fl : Bool} {bi : Nat} {ps : List (List UInt8)} {e : TE} (h : AAt (fun _ => False) w c (.mk 1 n fl bi ps e)) (hE : RsOk e) (hs : svE e) (hbi : bi < 18446744073709551616) (hz : zE e + 64 + n.length + lenS ps ≤ 50000000) :
    Calls Tryd.prog 51 #[.agg c.toArray] w fun r w' => r = .returned (.string ⟨(swA1 prF (.mk 1 n fl bi ps e)).toArray⟩) ∧ Fr Nil w w' := by
  obtain ⟨pn, ec, rfl, hr, he⟩ := h
  obtain ⟨pa, pc, rfl⟩ := RowC.shape hr
  obtain ⟨k', nm', fl', bi', a0, n0, c0, a1, n1, c1, a2, n2, c2, a3, n3, c3, rfl⟩ := he.formE
  obtain ⟨np, hnp⟩ : ∃ np, ps.length = np := ⟨_, rfl⟩
  have hr' : RowS (fun _ => False) w (.slice pa np pc) ps := by rw [← hnp]; exact hr
  have hw : (numT (prF fl bi)).length ≤ 23 := num_len prF prF_len fl bi
  have ht := swE_le (e := e) (by omega)
  have hrw : ∀ w', Fr Nil w w' → Calls Tryd.prog 46 #[.agg #[.bool fl, .int .u64 (bi : Int)]] w' fun r w2 => r = .returned (.string ⟨(numT (prF fl bi)).toArray⟩) ∧ Fr Nil w' w2 := fun w' f => rsnum_any fl bi hbi w'
  have hex : ∀ w', Fr Nil w w' → Calls Tryd.prog 18 #[.agg #[.int .i64 k', .string nm', .bool fl', .int .u64 bi', .slice a0 n0 c0, .slice a1 n1 c1, .slice a2 n2 c2, .slice a3 n3 c3]] w' fun r w2 => r = .returned (.string ⟨(swE prF e).toArray⟩) ∧ Fr Nil w' w2 := fun w' f => hE w' _ (he.frN f) hs (by omega)
  have hB : swA1 prF (.mk 1 n fl bi ps e) = numT (prF fl bi) ++ [32, 45, 62, 32] ++ swE prF e := by
    have h := arrow_doc (numT (prF fl bi)) [] (swE prF e)
    rw [words_nil, List.append_nil] at h
    exact h
  obtain ⟨t, htt⟩ : ∃ t, swE prF e = t := ⟨_, rfl⟩
  obtain ⟨u, hu⟩ : ∃ t, numT (prF fl bi) = t := ⟨_, rfl⟩
  obtain ⟨R, hR⟩ : ∃ t, swA1 prF (.mk 1 n fl bi ps e) = t := ⟨_, rfl⟩
  rw [htt] at ht hex hB
  rw [hu] at hw hrw hB
  rw [hR] at hB ⊢
  obtain ⟨S1, hS1⟩ : ∃ t : List UInt8, u = t := ⟨_, rfl⟩
  rw [hS1] at hB hrw
  have l1 : S1.length = u.length := by rw [hS1]
  obtain ⟨S2, hS2⟩ : ∃ t, S1 ++ [32, 45, 62, 32] = t := ⟨_, rfl⟩
  rw [hS2] at hB
  have l2 : S2.length = S1.length + 4 := by rw [← hS2]; simp
  have sa2 : ∀ w, (Op.stringOp .add ⟨S1.toArray⟩ ⟨#[32, 45, 62, 32]⟩).run Tryd.prog w = .ok (.string ⟨S2.toArray⟩) w := fun w => by rw [← hS2]; exact sadd S1 [32, 45, 62, 32] (by simp; omega) w
  have sa3 : ∀ w, (Op.stringOp .add ⟨S2.toArray⟩ ⟨t.toArray⟩).run Tryd.prog w = .ok (.string ⟨R.toArray⟩) w := fun w => by rw [hB]; exact sadd S2 t (by omega) w
  simp only [TA.kind, TA.name, TA.flt, TA.bits, TA.names, hnp]
  have hb1 : ∃ W1, w.alloc (.cells #[.int .i64 1, .string ⟨n.toArray⟩, .bool fl, .int .u64 (bi : Int), .slice pa np pc, .int .i64 k', .string nm', .bool fl', .int .u64 bi', .slice a0 n0 c0, .slice a1 n1 c1, .slice a2 n2 c2, .slice a3 n3 c3] 47) = W1 := ⟨_, rfl⟩
  obtain ⟨W1, hW1⟩ := hb1
  obtain ⟨T, hT⟩ : ∃ T, w.heap.size = T := ⟨_, rfl⟩
  have f1 : Fr Nil w W1 := by rw [← hW1]; (repeat (first | (with_reducible exact Fr.refl _ _) | (with_reducible assumption) | (with_reducible exact Fr.of_nil (by assumption)) | (with_reducible refine Fr.drew ?_) | (with_reducible refine Fr.drewN ?_ _) | (with_reducible refine Fr.alloc ?_ _) | (with_reducible refine Fr.set ?_ _ _ (by first | (intros; omega) | (simp; done) | (simp; omega))) | (with_reducible refine Fr.via ?_ (by assumption)) | (with_reducible refine Fr.comp ?_ (by assumption))))
  have b1 : Blk W1 T #[.int .i64 1, .string ⟨n.toArray⟩, .bool fl, .int .u64 (bi : Int), .slice pa np pc, .int .i64 k', .string nm', .bool fl', .int .u64 bi', .slice a0 n0 c0, .slice a1 n1 c1, .slice a2 n2 c2, .slice a3 n3 c3] 47 := by rw [← hW1, ← hT]; exact Blk.new _ _ _
  have HW := Lib.hid (And.intro (fun w' (f : Fr Nil W1 w') => hrw w' (f1.comp f)) (And.intro (fun w' (f : Fr Nil W1 w') => hex w' (f1.comp f)) f1))
  clear hr hr' he hw ht hrw hex hB htt hu hR hS1 l1 hS2 l2 hE hs hz hnp f1
  have HK2 : Hid (∀ w', Fr Nil W1 w' → w'.cell? ⟨T, 0, none⟩ = some (.int .i64 1) ∧ w'.cell? ⟨T, 1, none⟩ = some (.string ⟨n.toArray⟩) ∧ w'.cell? ⟨T, 2, none⟩ = some (.bool fl) ∧ w'.cell? ⟨T, 3, none⟩ = some (.int .u64 (bi : Int)) ∧ w'.cell? ⟨T, 4, none⟩ = some (.slice pa np pc) ∧ w'.cell? ⟨T, 5, none⟩ = some (.int .i64 k') ∧ w'.cell? ⟨T, 6, none⟩ = some (.string nm') ∧ w'.cell? ⟨T, 7, none⟩ = some (.bool fl') ∧ w'.cell? ⟨T, 8, none⟩ = some (.int .u64 bi') ∧ w'.cell? ⟨T, 9, none⟩ = some (.slice a0 n0 c0) ∧ w'.cell? ⟨T, 10, none⟩ = some (.slice a1 n1 c1) ∧ w'.cell? ⟨T, 11, none⟩ = some (.slice a2 n2 c2) ∧ w'.cell? ⟨T, 12, none⟩ = some (.slice a3 n3 c3)) := Lib.hid (fun w' f => by
    have b := f.blk b1 (fun q => q)
    have z0 := b.cell 0
    have z1 := b.cell 1
    have z2 := b.cell 2
    have z3 := b.cell 3
    have z4 := b.cell 4
    have z5 := b.cell 5
    have z6 := b.cell 6
    have z7 := b.cell 7
    have z8 := b.cell 8
    have z9 := b.cell 9
    have z10 := b.cell 10
    have z11 := b.cell 11
    have z12 := b.cell 12
    simp at z0 z1 z2 z3 z4 z5 z6 z7 z8 z9 z10 z11 z12
    exact ⟨z0, z1, z2, z3, z4, z5, z6, z7, z8, z9, z10, z11, z12⟩)
  obtain ⟨z0, z1, z2, z3, z4, z5, z6, z7, z8, z9, z10, z11, z12⟩ := HK2.out W1 (Fr.refl _ _)
  clear b1
  go_enter Tryd.func51, Tryd.ntmps51
  go_upto_region 2 with fail
  try rw [hT]
  try rw [hW1]
  clear hW1 hT
  go_region_held3 (fun w' => w'.cell? ⟨T, 0, none⟩ = some (.int .i64 1) ∧ w'.cell? ⟨T, 1, none⟩ = some (.string ⟨n.toArray⟩) ∧ w'.cell? ⟨T, 2, none⟩ = some (.bool fl) ∧ w'.cell? ⟨T, 3, none⟩ = some (.int .u64 (bi : Int)) ∧ w'.cell? ⟨T, 4, none⟩ = some (.slice pa np pc) ∧ w'.cell? ⟨T, 5, none⟩ = some (.int .i64 k') ∧ w'.cell? ⟨T, 6, none⟩ = some (.string nm') ∧ w'.cell? ⟨T, 7, none⟩ = some (.bool fl') ∧ w'.cell? ⟨T, 8, none⟩ = some (.int .u64 bi') ∧ w'.cell? ⟨T, 9, none⟩ = some (.slice a0 n0 c0) ∧ w'.cell? ⟨T, 10, none⟩ = some (.slice a1 n1 c1) ∧ w'.cell? ⟨T, 11, none⟩ = some (.slice a2 n2 c2) ∧ w'.cell? ⟨T, 12, none⟩ = some (.slice a3 n3 c3)) (with_reducible refine HK2.out _ ?_; (first | assumption | (repeat (first | (with_reducible exact Fr.refl _ _) | (with_reducible assumption) | (with_reducible exact Fr.of_nil (by assumption)) | (with_reducible refine Fr.drew ?_) | (with_reducible refine Fr.drewN ?_ _) | (with_reducible refine Fr.alloc ?_ _) | (with_reducible refine Fr.set ?_ _ _ (by first | (intros; omega) | (simp; done) | (simp; omega))) | (with_reducible refine Fr.via ?_ (by assumption)) | (with_reducible refine Fr.comp ?_ (by assumption)))))) (first
    | (go_at_call 46; refine (HW.out.1 _ (by first | assumption | (repeat (first | (with_reducible exact Fr.refl _ _) | (with_reducible assumption) | (with_reducible exact Fr.of_nil (by assumption)) | (with_reducible refine Fr.drew ?_) | (with_reducible refine Fr.drewN ?_ _) | (with_reducible refine Fr.alloc ?_ _) | (with_reducible refine Fr.set ?_ _ _ (by first | (intros; omega) | (simp; done) | (simp; omega))) | (with_reducible refine Fr.via ?_ (by assumption)) | (with_reducible refine Fr.comp ?_ (by assumption)))))).mono ?_; rintro r wa ⟨rfl, fa⟩; have ga : Fr Nil W1 wa := Fr.comp (S := Nil) (by first | assumption | (repeat (first | (with_reducible exact Fr.refl _ _) | (with_reducible assumption) | (with_reducible exact Fr.of_nil (by assumption)) | (with_reducible refine Fr.drew ?_) | (with_reducible refine Fr.drewN ?_ _) | (with_reducible refine Fr.alloc ?_ _) | (with_reducible refine Fr.set ?_ _ _ (by first | (intros; omega) | (simp; done) | (simp; omega))) | (with_reducible refine Fr.via ?_ (by assumption)) | (with_reducible refine Fr.comp ?_ (by assumption))))) fa; clear fa)
    | (go_at_call 18; refine (HW.out.2.1 _ (by first | assumption | (repeat (first | (with_reducible exact Fr.refl _ _) | (with_reducible assumption) | (with_reducible exact Fr.of_nil (by assumption)) | (with_reducible refine Fr.drew ?_) | (with_reducible refine Fr.drewN ?_ _) | (with_reducible refine Fr.alloc ?_ _) | (with_reducible refine Fr.set ?_ _ _ (by first | (intros; omega) | (simp; done) | (simp; omega))) | (with_reducible refine Fr.via ?_ (by assumption)) | (with_reducible refine Fr.comp ?_ (by assumption)))))).mono ?_; rintro r wb ⟨rfl, fb⟩; have gb : Fr Nil W1 wb := Fr.comp (S := Nil) (by first | assumption | (repeat (first | (with_reducible exact Fr.refl _ _) | (with_reducible assumption) | (with_reducible exact Fr.of_nil (by assumption)) | (with_reducible refine Fr.drew ?_) | (with_reducible refine Fr.drewN ?_ _) | (with_reducible refine Fr.alloc ?_ _) | (with_reducible refine Fr.set ?_ _ _ (by first | (intros; omega) | (simp; done) | (simp; omega))) | (with_reducible refine Fr.via ?_ (by assumption)) | (with_reducible refine Fr.comp ?_ (by assumption))))) fb; clear fb))
  all_goals
    go_wp2
    go_ret
    exact ⟨rfl, HW.out.2.2.comp (by first | assumption | (repeat (first | (with_reducible exact Fr.refl _ _) | (with_reducible assumption) | (with_reducible exact Fr.of_nil (by assumption)) | (with_reducible refine Fr.drew ?_) | (with_reducible refine Fr.drewN ?_ _) | (with_reducible refine Fr.alloc ?_ _) | (with_reducible refine Fr.set ?_ _ _ (by first | (intros; omega) | (simp; done) | (simp; omega))) | (with_reducible refine Fr.via ?_ (by assumption)) | (with_reducible refine Fr.comp ?_ (by assumption)))))⟩
set_option maxRecDepth 100000 in
set_option maxHeartbeats 4000000 in
theorem ralt_con {w : World} {c : List Value} {k : Nat} {n : List UInt8} {fl : Bool} {bi : Nat} {ps : List (List UInt8)} {e : TE} (h : AAt (fun _ => False) w c (.mk k n fl bi ps e)) (hE : RsOk e) (hs : svE e) (hk1 : k ≠ 1) (hz : zE e + 64 + n.length + lenS ps ≤ 50000000) :
    Calls Tryd.prog 51 #[.agg c.toArray] w fun r w' => r = .returned (.string ⟨(swA1 prF (.mk k n fl bi ps e)).toArray⟩) ∧ Fr Nil w w' := by
  obtain ⟨pn, ec, rfl, hr, he⟩ := h
  obtain ⟨pa, pc, rfl⟩ := RowC.shape hr
  obtain ⟨k', nm', fl', bi', a0, n0, c0, a1, n1, c1, a2, n2, c2, a3, n3, c3, rfl⟩ := he.formE
  obtain ⟨np, hnp⟩ : ∃ np, ps.length = np := ⟨_, rfl⟩
  have hr' : RowS (fun _ => False) w (.slice pa np pc) ps := by rw [← hnp]; exact hr
  have hw := words_len ps
  have ht := swE_le (e := e) (by omega)
  have hrw : ∀ w', Fr Nil w w' → Calls Tryd.prog 49 #[.slice pa np pc] w' fun r w2 => r = .returned (.string ⟨(wordsF ps).toArray⟩) ∧ Fr Nil w' w2 := fun w' f => rwords_any (hr'.frN f) hnp (by omega)
  have hex : ∀ w', Fr Nil w w' → Calls Tryd.prog 18 #[.agg #[.int .i64 k', .string nm', .bool fl', .int .u64 bi', .slice a0 n0 c0, .slice a1 n1 c1, .slice a2 n2 c2, .slice a3 n3 c3]] w' fun r w2 => r = .returned (.string ⟨(swE prF e).toArray⟩) ∧ Fr Nil w' w2 := fun w' f => hE w' _ (he.frN f) hs (by omega)
  have hB : swA1 prF (.mk k n fl bi ps e) = n ++ wordsF ps ++ [32, 45, 62, 32] ++ swE prF e := by
    show joinS ((if k = 1 then [numT (prF fl bi)] else n :: ps) ++ [[45, 62], swE prF e]) = _
    rw [if_neg hk1]
    exact arrow_doc n ps (swE prF e)
  obtain ⟨t, htt⟩ : ∃ t, swE prF e = t := ⟨_, rfl⟩
  obtain ⟨u, hu⟩ : ∃ t, wordsF ps = t := ⟨_, rfl⟩
  obtain ⟨R, hR⟩ : ∃ t, swA1 prF (.mk k n fl bi ps e) = t := ⟨_, rfl⟩
  rw [htt] at ht hex hB
  rw [hu] at hw hrw hB
  rw [hR] at hB ⊢
  obtain ⟨S1, hS1⟩ : ∃ t, n ++ u = t := ⟨_, rfl⟩
  rw [hS1] at hB
  have l1 : S1.length = n.length + u.length := by rw [← hS1]; simp
  obtain ⟨S2, hS2⟩ : ∃ t, S1 ++ [32, 45, 62, 32] = t := ⟨_, rfl⟩
  rw [hS2] at hB
  have l2 : S2.length = S1.length + 4 := by rw [← hS2]; simp
  have sa1 : ∀ w, (Op.stringOp .add ⟨n.toArray⟩ ⟨u.toArray⟩).run Tryd.prog w = .ok (.string ⟨S1.toArray⟩) w := fun w => by rw [← hS1]; exact sadd n u (by omega) w
  have sa2 : ∀ w, (Op.stringOp .add ⟨S1.toArray⟩ ⟨#[32, 45, 62, 32]⟩).run Tryd.prog w = .ok (.string ⟨S2.toArray⟩) w := fun w => by rw [← hS2]; exact sadd S1 [32, 45, 62, 32] (by simp; omega) w
  have sa3 : ∀ w, (Op.stringOp .add ⟨S2.toArray⟩ ⟨t.toArray⟩).run Tryd.prog w = .ok (.string ⟨R.toArray⟩) w := fun w => by rw [hB]; exact sadd S2 t (by omega) w
  simp only [TA.kind, TA.name, TA.flt, TA.bits, TA.names, hnp]
  have hb1 : ∃ W1, w.alloc (.cells #[.int .i64 (k : Int), .string ⟨n.toArray⟩, .bool fl, .int .u64 (bi : Int), .slice pa np pc, .int .i64 k', .string nm', .bool fl', .int .u64 bi', .slice a0 n0 c0, .slice a1 n1 c1, .slice a2 n2 c2, .slice a3 n3 c3] 47) = W1 := ⟨_, rfl⟩
  obtain ⟨W1, hW1⟩ := hb1
  obtain ⟨T, hT⟩ : ∃ T, w.heap.size = T := ⟨_, rfl⟩
  have f1 : Fr Nil w W1 := by rw [← hW1]; (repeat (first | (with_reducible exact Fr.refl _ _) | (with_reducible assumption) | (with_reducible exact Fr.of_nil (by assumption)) | (with_reducible refine Fr.drew ?_) | (with_reducible refine Fr.drewN ?_ _) | (with_reducible refine Fr.alloc ?_ _) | (with_reducible refine Fr.set ?_ _ _ (by first | (intros; omega) | (simp; done) | (simp; omega))) | (with_reducible refine Fr.via ?_ (by assumption)) | (with_reducible refine Fr.comp ?_ (by assumption))))
  have b1 : Blk W1 T #[.int .i64 (k : Int), .string ⟨n.toArray⟩, .bool fl, .int .u64 (bi : Int), .slice pa np pc, .int .i64 k', .string nm', .bool fl', .int .u64 bi', .slice a0 n0 c0, .slice a1 n1 c1, .slice a2 n2 c2, .slice a3 n3 c3] 47 := by rw [← hW1, ← hT]; exact Blk.new _ _ _
  have HW := Lib.hid (And.intro (fun w' (f : Fr Nil W1 w') => hrw w' (f1.comp f)) (And.intro (fun w' (f : Fr Nil W1 w') => hex w' (f1.comp f)) f1))
  clear hr hr' he hw ht hrw hex hB htt hu hR hS1 l1 hS2 l2 hE hs hz hnp f1
  have d1 : ((k : Int) == 1) = false := by rw [beq_eq_false_iff_ne]; omega
  have y1 : ¬ (k : Int) = 1 := by omega
  clear hk1
  have HK2 : Hid (∀ w', Fr Nil W1 w' → w'.cell? ⟨T, 0, none⟩ = some (.int .i64 (k : Int)) ∧ w'.cell? ⟨T, 1, none⟩ = some (.string ⟨n.toArray⟩) ∧ w'.cell? ⟨T, 2, none⟩ = some (.bool fl) ∧ w'.cell? ⟨T, 3, none⟩ = some (.int .u64 (bi : Int)) ∧ w'.cell? ⟨T, 4, none⟩ = some (.slice pa np pc) ∧ w'.cell? ⟨T, 5, none⟩ = some (.int .i64 k') ∧ w'.cell? ⟨T, 6, none⟩ = some (.string nm') ∧ w'.cell? ⟨T, 7, none⟩ = some (.bool fl') ∧ w'.cell? ⟨T, 8, none⟩ = some (.int .u64 bi') ∧ w'.cell? ⟨T, 9, none⟩ = some (.slice a0 n0 c0) ∧ w'.cell? ⟨T, 10, none⟩ = some (.slice a1 n1 c1) ∧ w'.cell? ⟨T, 11, none⟩ = some (.slice a2 n2 c2) ∧ w'.cell? ⟨T, 12, none⟩ = some (.slice a3 n3 c3)) := Lib.hid (fun w' f => by
    have b := f.blk b1 (fun q => q)
    have z0 := b.cell 0
    have z1 := b.cell 1
    have z2 := b.cell 2
    have z3 := b.cell 3
    have z4 := b.cell 4
    have z5 := b.cell 5
    have z6 := b.cell 6
    have z7 := b.cell 7
    have z8 := b.cell 8
    have z9 := b.cell 9
    have z10 := b.cell 10
    have z11 := b.cell 11
    have z12 := b.cell 12
    simp at z0 z1 z2 z3 z4 z5 z6 z7 z8 z9 z10 z11 z12
    exact ⟨z0, z1, z2, z3, z4, z5, z6, z7, z8, z9, z10, z11, z12⟩)
  obtain ⟨z0, z1, z2, z3, z4, z5, z6, z7, z8, z9, z10, z11, z12⟩ := HK2.out W1 (Fr.refl _ _)
  clear b1
  go_enter Tryd.func51, Tryd.ntmps51
  go_upto_region 3 with fail
  try rw [hT]
  try rw [hW1]
  clear hW1 hT
  go_region_held3 (fun w' => w'.cell? ⟨T, 0, none⟩ = some (.int .i64 (k : Int)) ∧ w'.cell? ⟨T, 1, none⟩ = some (.string ⟨n.toArray⟩) ∧ w'.cell? ⟨T, 2, none⟩ = some (.bool fl) ∧ w'.cell? ⟨T, 3, none⟩ = some (.int .u64 (bi : Int)) ∧ w'.cell? ⟨T, 4, none⟩ = some (.slice pa np pc) ∧ w'.cell? ⟨T, 5, none⟩ = some (.int .i64 k') ∧ w'.cell? ⟨T, 6, none⟩ = some (.string nm') ∧ w'.cell? ⟨T, 7, none⟩ = some (.bool fl') ∧ w'.cell? ⟨T, 8, none⟩ = some (.int .u64 bi') ∧ w'.cell? ⟨T, 9, none⟩ = some (.slice a0 n0 c0) ∧ w'.cell? ⟨T, 10, none⟩ = some (.slice a1 n1 c1) ∧ w'.cell? ⟨T, 11, none⟩ = some (.slice a2 n2 c2) ∧ w'.cell? ⟨T, 12, none⟩ = some (.slice a3 n3 c3)) (with_reducible refine HK2.out _ ?_; (first | assumption | (repeat (first | (with_reducible exact Fr.refl _ _) | (with_reducible assumption) | (with_reducible exact Fr.of_nil (by assumption)) | (with_reducible refine Fr.drew ?_) | (with_reducible refine Fr.drewN ?_ _) | (with_reducible refine Fr.alloc ?_ _) | (with_reducible refine Fr.set ?_ _ _ (by first | (intros; omega) | (simp; done) | (simp; omega))) | (with_reducible refine Fr.via ?_ (by assumption)) | (with_reducible refine Fr.comp ?_ (by assumption)))))) (first
    | (go_at_call 49; refine (HW.out.1 _ (by first | assumption | (repeat (first | (with_reducible exact Fr.refl _ _) | (with_reducible assumption) | (with_reducible exact Fr.of_nil (by assumption)) | (with_reducible refine Fr.drew ?_) | (with_reducible refine Fr.drewN ?_ _) | (with_reducible refine Fr.alloc ?_ _) | (with_reducible refine Fr.set ?_ _ _ (by first | (intros; omega) | (simp; done) | (simp; omega))) | (with_reducible refine Fr.via ?_ (by assumption)) | (with_reducible refine Fr.comp ?_ (by assumption)))))).mono ?_; rintro r wa ⟨rfl, fa⟩; have ga : Fr Nil W1 wa := Fr.comp (S := Nil) (by first | assumption | (repeat (first | (with_reducible exact Fr.refl _ _) | (with_reducible assumption) | (with_reducible exact Fr.of_nil (by assumption)) | (with_reducible refine Fr.drew ?_) | (with_reducible refine Fr.drewN ?_ _) | (with_reducible refine Fr.alloc ?_ _) | (with_reducible refine Fr.set ?_ _ _ (by first | (intros; omega) | (simp; done) | (simp; omega))) | (with_reducible refine Fr.via ?_ (by assumption)) | (with_reducible refine Fr.comp ?_ (by assumption))))) fa; clear fa)
    | (go_at_call 18; refine (HW.out.2.1 _ (by first | assumption | (repeat (first | (with_reducible exact Fr.refl _ _) | (with_reducible assumption) | (with_reducible exact Fr.of_nil (by assumption)) | (with_reducible refine Fr.drew ?_) | (with_reducible refine Fr.drewN ?_ _) | (with_reducible refine Fr.alloc ?_ _) | (with_reducible refine Fr.set ?_ _ _ (by first | (intros; omega) | (simp; done) | (simp; omega))) | (with_reducible refine Fr.via ?_ (by assumption)) | (with_reducible refine Fr.comp ?_ (by assumption)))))).mono ?_; rintro r wb ⟨rfl, fb⟩; have gb : Fr Nil W1 wb := Fr.comp (S := Nil) (by first | assumption | (repeat (first | (with_reducible exact Fr.refl _ _) | (with_reducible assumption) | (with_reducible exact Fr.of_nil (by assumption)) | (with_reducible refine Fr.drew ?_) | (with_reducible refine Fr.drewN ?_ _) | (with_reducible refine Fr.alloc ?_ _) | (with_reducible refine Fr.set ?_ _ _ (by first | (intros; omega) | (simp; done) | (simp; omega))) | (with_reducible refine Fr.via ?_ (by assumption)) | (with_reducible refine Fr.comp ?_ (by assumption))))) fb; clear fb))
  all_goals
    go_wp2
    go_ret
    exact ⟨rfl, HW.out.2.2.comp (by first | assumption | (repeat (first | (with_reducible exact Fr.refl _ _) | (with_reducible assumption) | (with_reducible exact Fr.of_nil (by assumption)) | (with_reducible refine Fr.drew ?_) | (with_reducible refine Fr.drewN ?_ _) | (with_reducible refine Fr.alloc ?_ _) | (with_reducible refine Fr.set ?_ _ _ (by first | (intros; omega) | (simp; done) | (simp; omega))) | (with_reducible refine Fr.via ?_ (by assumption)) | (with_reducible refine Fr.comp ?_ (by assumption)))))⟩
end Go.Proofs.YtpjlibbdngnnnaaDoor

namespace Go.Proofs.YtpjlibbdngnnnaaDoor
set_option linter.unusedSimpArgs false
set_option linter.unusedVariables false
open Go.RowKit

set_option maxRecDepth 100000 in
set_option maxHeartbeats 4000000 in
theorem rx_var {nm : List UInt8} {fl : Bool} {bi : Nat} {ps : List (List UInt8)} {ks : List TE} {bs : List TB} {al : List TA} : RsOk (.mk 1 nm fl bi ps ks bs al) := by
  intro w cs h hs hz
  obtain ⟨a0, c0, a1, c1, a2, c2, a3, c3, kc, bc, ac, rfl, hp, hk, hk2, hb, hb2, ha, ha2⟩ := h.opened
  obtain ⟨nk, hnk⟩ : ∃ nk, ks.length = nk := ⟨_, rfl⟩
  obtain ⟨nb, hnb⟩ : ∃ nb, bs.length = nb := ⟨_, rfl⟩
  obtain ⟨na, hna⟩ : ∃ na, al.length = na := ⟨_, rfl⟩
  obtain ⟨np, hnp⟩ : ∃ np, ps.length = np := ⟨_, rfl⟩
  rw [hnk] at hk
  rw [hnb] at hb
  rw [hna] at ha
  have hp' : RowS (fun _ => False) w (.slice a0 np c0) ps := by rw [← hnp]; exact hp
  have hk9 := hk.lenX
  have hb9 := hb.lenX
  have ha9 := ha.lenX
  rw [hnk, hnb, hna, hnp]
  clear h hp
  unfold svE at hs
  obtain ⟨hsf, hsk, hsb, hsa⟩ := hs
  have hz' := hz
  unfold zE at hz'
  obtain ⟨R, hR⟩ : ∃ t, swE prF (.mk 1 nm fl bi ps ks bs al) = t := ⟨_, rfl⟩
  rw [hR]
  have hRl := swE_le hz
  rw [hR] at hRl
  rw [swE] at hR
  obtain ⟨W1, hW1⟩ : ∃ W1, w.alloc (.cells #[.int .i64 1, .string ⟨nm.toArray⟩, .bool fl, .int .u64 (bi : Int), .slice a0 np c0, .slice a1 nk c1, .slice a2 nb c2, .slice a3 na c3] 40) = W1 := ⟨_, rfl⟩
  obtain ⟨T, hT⟩ : ∃ T, w.heap.size = T := ⟨_, rfl⟩
  have f1 : Fr Nil w W1 := by rw [← hW1]; (repeat (first | (with_reducible exact Fr.refl _ _) | (with_reducible assumption) | (with_reducible exact Fr.of_nil (by assumption)) | (with_reducible refine Fr.drew ?_) | (with_reducible refine Fr.drewN ?_ _) | (with_reducible refine Fr.alloc ?_ _) | (with_reducible refine Fr.set ?_ _ _ (by first | (intros; omega) | (simp; done) | (simp; omega))) | (with_reducible refine Fr.via ?_ (by assumption)) | (with_reducible refine Fr.comp ?_ (by assumption))))
  have b1 : Blk W1 T #[.int .i64 1, .string ⟨nm.toArray⟩, .bool fl, .int .u64 (bi : Int), .slice a0 np c0, .slice a1 nk c1, .slice a2 nb c2, .slice a3 na c3] 40 := by rw [← hW1, ← hT]; exact Blk.new _ _ _
  have HK2 : Hid (∀ w', Fr Nil W1 w' → w'.cell? ⟨T, 0, none⟩ = some (.int .i64 1) ∧ w'.cell? ⟨T, 1, none⟩ = some (.string ⟨nm.toArray⟩) ∧ w'.cell? ⟨T, 2, none⟩ = some (.bool fl) ∧ w'.cell? ⟨T, 3, none⟩ = some (.int .u64 (bi : Int)) ∧ w'.cell? ⟨T, 4, none⟩ = some (.slice a0 np c0) ∧ w'.cell? ⟨T, 5, none⟩ = some (.slice a1 nk c1) ∧ w'.cell? ⟨T, 6, none⟩ = some (.slice a2 nb c2) ∧ w'.cell? ⟨T, 7, none⟩ = some (.slice a3 na c3)) := Lib.hid (fun w' f => by
    have b := f.blk b1 (fun q => q)
    have z0 := b.cell 0
    have z1 := b.cell 1
    have z2 := b.cell 2
    have z3 := b.cell 3
    have z4 := b.cell 4
    have z5 := b.cell 5
    have z6 := b.cell 6
    have z7 := b.cell 7
    simp at z0 z1 z2 z3 z4 z5 z6 z7
    exact ⟨z0, z1, z2, z3, z4, z5, z6, z7⟩)
  obtain ⟨z0, z1, z2, z3, z4, z5, z6, z7⟩ := HK2.out W1 (Fr.refl _ _)
  have zl := b1.lt
  have HF1 := Lib.hid f1
  clear b1
  rw [if_pos rfl] at hR
  subst hR
  clear hp' hk hk2 hb hb2 ha ha2 hnk hnb hna hnp hsf hsk hsb hsa hz hz' f1
  go_enter Tryd.func18, Tryd.ntmps18
  go_wp2
  go_ret
  exact ⟨rfl, HF1.out⟩
set_option maxRecDepth 100000 in
set_option maxHeartbeats 4000000 in
theorem rx_num {nm : List UInt8} {fl : Bool} {bi : Nat} {ps : List (List UInt8)} {ks : List TE} {bs : List TB} {al : List TA} : RsOk (.mk 3 nm fl bi ps ks bs al) := by
  intro w cs h hs hz
  obtain ⟨a0, c0, a1, c1, a2, c2, a3, c3, kc, bc, ac, rfl, hp, hk, hk2, hb, hb2, ha, ha2⟩ := h.opened
  obtain ⟨nk, hnk⟩ : ∃ nk, ks.length = nk := ⟨_, rfl⟩
  obtain ⟨nb, hnb⟩ : ∃ nb, bs.length = nb := ⟨_, rfl⟩
  obtain ⟨na, hna⟩ : ∃ na, al.length = na := ⟨_, rfl⟩
  obtain ⟨np, hnp⟩ : ∃ np, ps.length = np := ⟨_, rfl⟩
  rw [hnk] at hk
  rw [hnb] at hb
  rw [hna] at ha
  have hp' : RowS (fun _ => False) w (.slice a0 np c0) ps := by rw [← hnp]; exact hp
  have hk9 := hk.lenX
  have hb9 := hb.lenX
  have ha9 := ha.lenX
  rw [hnk, hnb, hna, hnp]
  clear h hp
  unfold svE at hs
  obtain ⟨hsf, hsk, hsb, hsa⟩ := hs
  have hz' := hz
  unfold zE at hz'
  obtain ⟨R, hR⟩ : ∃ t, swE prF (.mk 3 nm fl bi ps ks bs al) = t := ⟨_, rfl⟩
  rw [hR]
  have hRl := swE_le hz
  rw [hR] at hRl
  rw [swE] at hR
  obtain ⟨W1, hW1⟩ : ∃ W1, w.alloc (.cells #[.int .i64 3, .string ⟨nm.toArray⟩, .bool fl, .int .u64 (bi : Int), .slice a0 np c0, .slice a1 nk c1, .slice a2 nb c2, .slice a3 na c3] 40) = W1 := ⟨_, rfl⟩
  obtain ⟨T, hT⟩ : ∃ T, w.heap.size = T := ⟨_, rfl⟩
  have f1 : Fr Nil w W1 := by rw [← hW1]; (repeat (first | (with_reducible exact Fr.refl _ _) | (with_reducible assumption) | (with_reducible exact Fr.of_nil (by assumption)) | (with_reducible refine Fr.drew ?_) | (with_reducible refine Fr.drewN ?_ _) | (with_reducible refine Fr.alloc ?_ _) | (with_reducible refine Fr.set ?_ _ _ (by first | (intros; omega) | (simp; done) | (simp; omega))) | (with_reducible refine Fr.via ?_ (by assumption)) | (with_reducible refine Fr.comp ?_ (by assumption))))
  have b1 : Blk W1 T #[.int .i64 3, .string ⟨nm.toArray⟩, .bool fl, .int .u64 (bi : Int), .slice a0 np c0, .slice a1 nk c1, .slice a2 nb c2, .slice a3 na c3] 40 := by rw [← hW1, ← hT]; exact Blk.new _ _ _
  have HK2 : Hid (∀ w', Fr Nil W1 w' → w'.cell? ⟨T, 0, none⟩ = some (.int .i64 3) ∧ w'.cell? ⟨T, 1, none⟩ = some (.string ⟨nm.toArray⟩) ∧ w'.cell? ⟨T, 2, none⟩ = some (.bool fl) ∧ w'.cell? ⟨T, 3, none⟩ = some (.int .u64 (bi : Int)) ∧ w'.cell? ⟨T, 4, none⟩ = some (.slice a0 np c0) ∧ w'.cell? ⟨T, 5, none⟩ = some (.slice a1 nk c1) ∧ w'.cell? ⟨T, 6, none⟩ = some (.slice a2 nb c2) ∧ w'.cell? ⟨T, 7, none⟩ = some (.slice a3 na c3)) := Lib.hid (fun w' f => by
    have b := f.blk b1 (fun q => q)
    have z0 := b.cell 0
    have z1 := b.cell 1
    have z2 := b.cell 2
    have z3 := b.cell 3
    have z4 := b.cell 4
    have z5 := b.cell 5
    have z6 := b.cell 6
    have z7 := b.cell 7
    simp at z0 z1 z2 z3 z4 z5 z6 z7
    exact ⟨z0, z1, z2, z3, z4, z5, z6, z7⟩)
  obtain ⟨z0, z1, z2, z3, z4, z5, z6, z7⟩ := HK2.out W1 (Fr.refl _ _)
  have zl := b1.lt
  have HF1 := Lib.hid f1
  clear b1
  rw [if_neg (by decide), if_neg (by decide), if_pos rfl] at hR
  have HB := Lib.hid hsf.1
  clear hp' hk hk2 hb hb2 ha ha2 hnk hnb hna hnp hsf hsk hsb hsa hz hz' f1
  go_enter Tryd.func18, Tryd.ntmps18
  go_wp2_with fail
  try rw [hW1]
  refine (rsnum_any fl bi HB.out _).mono ?_
  rintro r w2 ⟨rfl, f2⟩
  rw [hR]
  have HF : Hid (Fr Nil w w2) := Lib.hid (HF1.out.comp f2)
  clear f2 hR
  go_wp2
  go_ret
  exact ⟨rfl, HF.out⟩
set_option maxRecDepth 100000 in
set_option maxHeartbeats 4000000 in
theorem rx_con {nm : List UInt8} {fl : Bool} {bi : Nat} {ps : List (List UInt8)} {ks : List TE} {bs : List TB} {al : List TA} (hK : ∀ e ∈ ks, RsOk e) : RsOk (.mk 2 nm fl bi ps ks bs al) := by
  intro w cs h hs hz
  obtain ⟨a0, c0, a1, c1, a2, c2, a3, c3, kc, bc, ac, rfl, hp, hk, hk2, hb, hb2, ha, ha2⟩ := h.opened
  obtain ⟨nk, hnk⟩ : ∃ nk, ks.length = nk := ⟨_, rfl⟩
  obtain ⟨nb, hnb⟩ : ∃ nb, bs.length = nb := ⟨_, rfl⟩
  obtain ⟨na, hna⟩ : ∃ na, al.length = na := ⟨_, rfl⟩
  obtain ⟨np, hnp⟩ : ∃ np, ps.length = np := ⟨_, rfl⟩
  rw [hnk] at hk
  rw [hnb] at hb
  rw [hna] at ha
  have hp' : RowS (fun _ => False) w (.slice a0 np c0) ps := by rw [← hnp]; exact hp
  have hk9 := hk.lenX
  have hb9 := hb.lenX
  have ha9 := ha.lenX
  rw [hnk, hnb, hna, hnp]
  clear h hp
  unfold svE at hs
  obtain ⟨hsf, hsk, hsb, hsa⟩ := hs
  have hz' := hz
  unfold zE at hz'
  obtain ⟨R, hR⟩ : ∃ t, swE prF (.mk 2 nm fl bi ps ks bs al) = t := ⟨_, rfl⟩
  rw [hR]
  have hRl := swE_le hz
  rw [hR] at hRl
  rw [swE] at hR
  obtain ⟨W1, hW1⟩ : ∃ W1, w.alloc (.cells #[.int .i64 2, .string ⟨nm.toArray⟩, .bool fl, .int .u64 (bi : Int), .slice a0 np c0, .slice a1 nk c1, .slice a2 nb c2, .slice a3 na c3] 40) = W1 := ⟨_, rfl⟩
  obtain ⟨T, hT⟩ : ∃ T, w.heap.size = T := ⟨_, rfl⟩
  have f1 : Fr Nil w W1 := by rw [← hW1]; (repeat (first | (with_reducible exact Fr.refl _ _) | (with_reducible assumption) | (with_reducible exact Fr.of_nil (by assumption)) | (with_reducible refine Fr.drew ?_) | (with_reducible refine Fr.drewN ?_ _) | (with_reducible refine Fr.alloc ?_ _) | (with_reducible refine Fr.set ?_ _ _ (by first | (intros; omega) | (simp; done) | (simp; omega))) | (with_reducible refine Fr.via ?_ (by assumption)) | (with_reducible refine Fr.comp ?_ (by assumption))))
  have b1 : Blk W1 T #[.int .i64 2, .string ⟨nm.toArray⟩, .bool fl, .int .u64 (bi : Int), .slice a0 np c0, .slice a1 nk c1, .slice a2 nb c2, .slice a3 na c3] 40 := by rw [← hW1, ← hT]; exact Blk.new _ _ _
  have HK2 : Hid (∀ w', Fr Nil W1 w' → w'.cell? ⟨T, 0, none⟩ = some (.int .i64 2) ∧ w'.cell? ⟨T, 1, none⟩ = some (.string ⟨nm.toArray⟩) ∧ w'.cell? ⟨T, 2, none⟩ = some (.bool fl) ∧ w'.cell? ⟨T, 3, none⟩ = some (.int .u64 (bi : Int)) ∧ w'.cell? ⟨T, 4, none⟩ = some (.slice a0 np c0) ∧ w'.cell? ⟨T, 5, none⟩ = some (.slice a1 nk c1) ∧ w'.cell? ⟨T, 6, none⟩ = some (.slice a2 nb c2) ∧ w'.cell? ⟨T, 7, none⟩ = some (.slice a3 na c3)) := Lib.hid (fun w' f => by
    have b := f.blk b1 (fun q => q)
    have z0 := b.cell 0
    have z1 := b.cell 1
    have z2 := b.cell 2
    have z3 := b.cell 3
    have z4 := b.cell 4
    have z5 := b.cell 5
    have z6 := b.cell 6
    have z7 := b.cell 7
    simp at z0 z1 z2 z3 z4 z5 z6 z7
    exact ⟨z0, z1, z2, z3, z4, z5, z6, z7⟩)
  obtain ⟨z0, z1, z2, z3, z4, z5, z6, z7⟩ := HK2.out W1 (Fr.refl _ _)
  have zl := b1.lt
  have HF1 := Lib.hid f1
  clear b1
  rw [if_neg (by decide), if_pos rfl] at hR
  have hkids : ∀ w', Fr Nil W1 w' → Calls Tryd.prog 47 #[.slice a1 nk c1] w' fun r w2 => r = .returned (.string ⟨(wordsF (swK prF ks)).toArray⟩) ∧ Fr Nil w' w2 := fun w' f => rkids_any (hk.frN (f1.comp f)) (fun i hi => (hk2 i hi).frN (f1.comp f)) hnk hK hsk (by omega)
  rw [joinS_cons] at hR
  obtain ⟨u, hu⟩ : ∃ t, wordsF (swK prF ks) = t := ⟨_, rfl⟩
  rw [hu] at hR hkids
  have hul : nm.length + u.length = R.length := by rw [← hR, List.length_append]
  have sa1 : ∀ w, (Op.stringOp .add ⟨nm.toArray⟩ ⟨u.toArray⟩).run Tryd.prog w = .ok (.string ⟨R.toArray⟩) w := fun w => by rw [← hR]; exact sadd nm u (by omega) w
  have HW := Lib.hid hkids
  clear hkids hu hR hul hRl hK
  clear hp' hk hk2 hb hb2 ha ha2 hnk hnb hna hnp hsf hsk hsb hsa hz hz' f1
  go_enter Tryd.func18, Tryd.ntmps18
  go_upto_region 7 with fail
  try rw [hT]
  try rw [hW1]
  clear hW1 hT
  go_region_held3 (fun w' => w'.cell? ⟨T, 0, none⟩ = some (.int .i64 2) ∧ w'.cell? ⟨T, 1, none⟩ = some (.string ⟨nm.toArray⟩) ∧ w'.cell? ⟨T, 2, none⟩ = some (.bool fl) ∧ w'.cell? ⟨T, 3, none⟩ = some (.int .u64 (bi : Int)) ∧ w'.cell? ⟨T, 4, none⟩ = some (.slice a0 np c0) ∧ w'.cell? ⟨T, 5, none⟩ = some (.slice a1 nk c1) ∧ w'.cell? ⟨T, 6, none⟩ = some (.slice a2 nb c2) ∧ w'.cell? ⟨T, 7, none⟩ = some (.slice a3 na c3)) (with_reducible refine HK2.out _ ?_; (first | assumption | (repeat (first | (with_reducible exact Fr.refl _ _) | (with_reducible assumption) | (with_reducible exact Fr.of_nil (by assumption)) | (with_reducible refine Fr.drew ?_) | (with_reducible refine Fr.drewN ?_ _) | (with_reducible refine Fr.alloc ?_ _) | (with_reducible refine Fr.set ?_ _ _ (by first | (intros; omega) | (simp; done) | (simp; omega))) | (with_reducible refine Fr.via ?_ (by assumption)) | (with_reducible refine Fr.comp ?_ (by assumption)))))) (first
    | (go_at_call 47; refine (HW.out _ (by first | assumption | (repeat (first | (with_reducible exact Fr.refl _ _) | (with_reducible assumption) | (with_reducible exact Fr.of_nil (by assumption)) | (with_reducible refine Fr.drew ?_) | (with_reducible refine Fr.drewN ?_ _) | (with_reducible refine Fr.alloc ?_ _) | (with_reducible refine Fr.set ?_ _ _ (by first | (intros; omega) | (simp; done) | (simp; omega))) | (with_reducible refine Fr.via ?_ (by assumption)) | (with_reducible refine Fr.comp ?_ (by assumption)))))).mono ?_; rintro r wa ⟨rfl, fa⟩; have ga : Fr Nil W1 wa := Fr.comp (S := Nil) (by first | assumption | (repeat (first | (with_reducible exact Fr.refl _ _) | (with_reducible assumption) | (with_reducible exact Fr.of_nil (by assumption)) | (with_reducible refine Fr.drew ?_) | (with_reducible refine Fr.drewN ?_ _) | (with_reducible refine Fr.alloc ?_ _) | (with_reducible refine Fr.set ?_ _ _ (by first | (intros; omega) | (simp; done) | (simp; omega))) | (with_reducible refine Fr.via ?_ (by assumption)) | (with_reducible refine Fr.comp ?_ (by assumption))))) fa; clear fa))
  all_goals
    go_wp2
    go_ret
    exact ⟨rfl, HF1.out.comp (by first | assumption | (repeat (first | (with_reducible exact Fr.refl _ _) | (with_reducible assumption) | (with_reducible exact Fr.of_nil (by assumption)) | (with_reducible refine Fr.drew ?_) | (with_reducible refine Fr.drewN ?_ _) | (with_reducible refine Fr.alloc ?_ _) | (with_reducible refine Fr.set ?_ _ _ (by first | (intros; omega) | (simp; done) | (simp; omega))) | (with_reducible refine Fr.via ?_ (by assumption)) | (with_reducible refine Fr.comp ?_ (by assumption)))))⟩
set_option maxRecDepth 100000 in
set_option maxHeartbeats 4000000 in
theorem rx_low {ch : UInt8} {rest : List UInt8} {fl : Bool} {bi : Nat} {ps : List (List UInt8)} {ks : List TE} {bs : List TB} {al : List TA} (hl : lowF (ch :: rest) = true) (hK : ∀ e ∈ ks, RsOk e) : RsOk (.mk 5 (ch :: rest) fl bi ps ks bs al) := by
  intro w cs h hs hz
  obtain ⟨a0, c0, a1, c1, a2, c2, a3, c3, kc, bc, ac, rfl, hp, hk, hk2, hb, hb2, ha, ha2⟩ := h.opened
  obtain ⟨nk, hnk⟩ : ∃ nk, ks.length = nk := ⟨_, rfl⟩
  obtain ⟨nb, hnb⟩ : ∃ nb, bs.length = nb := ⟨_, rfl⟩
  obtain ⟨na, hna⟩ : ∃ na, al.length = na := ⟨_, rfl⟩
  obtain ⟨np, hnp⟩ : ∃ np, ps.length = np := ⟨_, rfl⟩
  rw [hnk] at hk
  rw [hnb] at hb
  rw [hna] at ha
  have hp' : RowS (fun _ => False) w (.slice a0 np c0) ps := by rw [← hnp]; exact hp
  have hk9 := hk.lenX
  have hb9 := hb.lenX
  have ha9 := ha.lenX
  rw [hnk, hnb, hna, hnp]
  clear h hp
  unfold svE at hs
  obtain ⟨hsf, hsk, hsb, hsa⟩ := hs
  have hz' := hz
  unfold zE at hz'
  obtain ⟨R, hR⟩ : ∃ t, swE prF (.mk 5 (ch :: rest) fl bi ps ks bs al) = t := ⟨_, rfl⟩
  rw [hR]
  have hRl := swE_le hz
  rw [hR] at hRl
  rw [swE] at hR
  obtain ⟨W1, hW1⟩ : ∃ W1, w.alloc (.cells #[.int .i64 5, .string ⟨(ch :: rest).toArray⟩, .bool fl, .int .u64 (bi : Int), .slice a0 np c0, .slice a1 nk c1, .slice a2 nb c2, .slice a3 na c3] 40) = W1 := ⟨_, rfl⟩
  obtain ⟨T, hT⟩ : ∃ T, w.heap.size = T := ⟨_, rfl⟩
  have f1 : Fr Nil w W1 := by rw [← hW1]; (repeat (first | (with_reducible exact Fr.refl _ _) | (with_reducible assumption) | (with_reducible exact Fr.of_nil (by assumption)) | (with_reducible refine Fr.drew ?_) | (with_reducible refine Fr.drewN ?_ _) | (with_reducible refine Fr.alloc ?_ _) | (with_reducible refine Fr.set ?_ _ _ (by first | (intros; omega) | (simp; done) | (simp; omega))) | (with_reducible refine Fr.via ?_ (by assumption)) | (with_reducible refine Fr.comp ?_ (by assumption))))
  have b1 : Blk W1 T #[.int .i64 5, .string ⟨(ch :: rest).toArray⟩, .bool fl, .int .u64 (bi : Int), .slice a0 np c0, .slice a1 nk c1, .slice a2 nb c2, .slice a3 na c3] 40 := by rw [← hW1, ← hT]; exact Blk.new _ _ _
  have HK2 : Hid (∀ w', Fr Nil W1 w' → w'.cell? ⟨T, 0, none⟩ = some (.int .i64 5) ∧ w'.cell? ⟨T, 1, none⟩ = some (.string ⟨(ch :: rest).toArray⟩) ∧ w'.cell? ⟨T, 2, none⟩ = some (.bool fl) ∧ w'.cell? ⟨T, 3, none⟩ = some (.int .u64 (bi : Int)) ∧ w'.cell? ⟨T, 4, none⟩ = some (.slice a0 np c0) ∧ w'.cell? ⟨T, 5, none⟩ = some (.slice a1 nk c1) ∧ w'.cell? ⟨T, 6, none⟩ = some (.slice a2 nb c2) ∧ w'.cell? ⟨T, 7, none⟩ = some (.slice a3 na c3)) := Lib.hid (fun w' f => by
    have b := f.blk b1 (fun q => q)
    have z0 := b.cell 0
    have z1 := b.cell 1
    have z2 := b.cell 2
    have z3 := b.cell 3
    have z4 := b.cell 4
    have z5 := b.cell 5
    have z6 := b.cell 6
    have z7 := b.cell 7
    simp at z0 z1 z2 z3 z4 z5 z6 z7
    exact ⟨z0, z1, z2, z3, z4, z5, z6, z7⟩)
  obtain ⟨z0, z1, z2, z3, z4, z5, z6, z7⟩ := HK2.out W1 (Fr.refl _ _)
  have zl := b1.lt
  have HF1 := Lib.hid f1
  clear b1
  rw [if_neg (by decide), if_neg (by decide), if_neg (by decide), if_neg (by decide), if_pos rfl, if_pos (.inl hl)] at hR
  have hl2 : 97 ≤ ch.toNat ∧ ch.toNat ≤ 122 := by simpa [lowF] using hl
  have q1 : (97 : Int) ≤ (ch.toNat : Int) := by omega
  have q2 : (ch.toNat : Int) ≤ 122 := by omega
  clear hl2 hl
  have hix : ∀ h, (⟨(ch :: rest).toArray⟩ : ByteArray)[0]'h = ch := fun _ => rfl
  have hkids : ∀ w', Fr Nil W1 w' → Calls Tryd.prog 47 #[.slice a1 nk c1] w' fun r w2 => r = .returned (.string ⟨(wordsF (swK prF ks)).toArray⟩) ∧ Fr Nil w' w2 := fun w' f => rkids_any (hk.frN (f1.comp f)) (fun i hi => (hk2 i hi).frN (f1.comp f)) hnk hK hsk (by omega)
  rw [joinS_cons] at hR
  obtain ⟨u, hu⟩ : ∃ t, wordsF (swK prF ks) = t := ⟨_, rfl⟩
  rw [hu] at hR hkids
  have hul : (ch :: rest).length + u.length = R.length := by rw [← hR, List.length_append]
  have sa1 : ∀ w, (Op.stringOp .add ⟨(ch :: rest).toArray⟩ ⟨u.toArray⟩).run Tryd.prog w = .ok (.string ⟨R.toArray⟩) w := fun w => by rw [← hR]; exact sadd (ch :: rest) u (by omega) w
  have HW := Lib.hid hkids
  clear hkids hu hR hul hRl hK
  clear hp' hk hk2 hb hb2 ha ha2 hnk hnb hna hnp hsf hsk hsb hsa hz hz' f1
  go_enter Tryd.func18, Tryd.ntmps18
  go_upto_region 10 with fail
  try rw [hT]
  try rw [hW1]
  clear hW1 hT
  go_region_held3 (fun w' => w'.cell? ⟨T, 0, none⟩ = some (.int .i64 5) ∧ w'.cell? ⟨T, 1, none⟩ = some (.string ⟨(ch :: rest).toArray⟩) ∧ w'.cell? ⟨T, 2, none⟩ = some (.bool fl) ∧ w'.cell? ⟨T, 3, none⟩ = some (.int .u64 (bi : Int)) ∧ w'.cell? ⟨T, 4, none⟩ = some (.slice a0 np c0) ∧ w'.cell? ⟨T, 5, none⟩ = some (.slice a1 nk c1) ∧ w'.cell? ⟨T, 6, none⟩ = some (.slice a2 nb c2) ∧ w'.cell? ⟨T, 7, none⟩ = some (.slice a3 na c3)) (with_reducible refine HK2.out _ ?_; (first | assumption | (repeat (first | (with_reducible exact Fr.refl _ _) | (with_reducible assumption) | (with_reducible exact Fr.of_nil (by assumption)) | (with_reducible refine Fr.drew ?_) | (with_reducible refine Fr.drewN ?_ _) | (with_reducible refine Fr.alloc ?_ _) | (with_reducible refine Fr.set ?_ _ _ (by first | (intros; omega) | (simp; done) | (simp; omega))) | (with_reducible refine Fr.via ?_ (by assumption)) | (with_reducible refine Fr.comp ?_ (by assumption)))))) (first
    | (go_at_call 47; refine (HW.out _ (by first | assumption | (repeat (first | (with_reducible exact Fr.refl _ _) | (with_reducible assumption) | (with_reducible exact Fr.of_nil (by assumption)) | (with_reducible refine Fr.drew ?_) | (with_reducible refine Fr.drewN ?_ _) | (with_reducible refine Fr.alloc ?_ _) | (with_reducible refine Fr.set ?_ _ _ (by first | (intros; omega) | (simp; done) | (simp; omega))) | (with_reducible refine Fr.via ?_ (by assumption)) | (with_reducible refine Fr.comp ?_ (by assumption)))))).mono ?_; rintro r wa ⟨rfl, fa⟩; have ga : Fr Nil W1 wa := Fr.comp (S := Nil) (by first | assumption | (repeat (first | (with_reducible exact Fr.refl _ _) | (with_reducible assumption) | (with_reducible exact Fr.of_nil (by assumption)) | (with_reducible refine Fr.drew ?_) | (with_reducible refine Fr.drewN ?_ _) | (with_reducible refine Fr.alloc ?_ _) | (with_reducible refine Fr.set ?_ _ _ (by first | (intros; omega) | (simp; done) | (simp; omega))) | (with_reducible refine Fr.via ?_ (by assumption)) | (with_reducible refine Fr.comp ?_ (by assumption))))) fa; clear fa))
  all_goals
    go_wp2
    go_ret
    exact ⟨rfl, HF1.out.comp (by first | assumption | (repeat (first | (with_reducible exact Fr.refl _ _) | (with_reducible assumption) | (with_reducible exact Fr.of_nil (by assumption)) | (with_reducible refine Fr.drew ?_) | (with_reducible refine Fr.drewN ?_ _) | (with_reducible refine Fr.alloc ?_ _) | (with_reducible refine Fr.set ?_ _ _ (by first | (intros; omega) | (simp; done) | (simp; omega))) | (with_reducible refine Fr.via ?_ (by assumption)) | (with_reducible refine Fr.comp ?_ (by assumption)))))⟩
end Go.Proofs.YtpjlibbdngnnnaaDoor

namespace Go.Proofs.YtpjlibbdngnnnaaDoor
set_option linter.unusedSimpArgs false
set_option linter.unusedVariables false
open Go.RowKit

theorem slice1 (u : List UInt8) : (⟨u.toArray⟩ : ByteArray).extract 1 (⟨u.toArray⟩ : ByteArray).size = ⟨(u.drop 1).toArray⟩ := by
  have h := extract_list ⟨u.toArray⟩ 1
  have e : ((⟨u.toArray⟩ : ByteArray).extract 1 (⟨u.toArray⟩ : ByteArray).size).data = (u.drop 1).toArray := by
    rw [← Array.toList_inj]
    exact h
  exact congrArg ByteArray.mk e
set_option maxRecDepth 100000 in
set_option maxHeartbeats 4000000 in
theorem rx_lam {nm : List UInt8} {fl : Bool} {bi : Nat} {ps : List (List UInt8)} {ks : List TE} {bs : List TB} {al : List TA} (hK : ∀ e ∈ ks, RsOk e) : RsOk (.mk 8 nm fl bi ps ks bs al) := by
  intro w cs h hs hz
  obtain ⟨a0, c0, a1, c1, a2, c2, a3, c3, kc, bc, ac, rfl, hp, hk, hk2, hb, hb2, ha, ha2⟩ := h.opened
  obtain ⟨nk, hnk⟩ : ∃ nk, ks.length = nk := ⟨_, rfl⟩
  obtain ⟨nb, hnb⟩ : ∃ nb, bs.length = nb := ⟨_, rfl⟩
  obtain ⟨na, hna⟩ : ∃ na, al.length = na := ⟨_, rfl⟩
  obtain ⟨np, hnp⟩ : ∃ np, ps.length = np := ⟨_, rfl⟩
  rw [hnk] at hk
  rw [hnb] at hb
  rw [hna] at ha
  have hp' : RowS (fun _ => False) w (.slice a0 np c0) ps := by rw [← hnp]; exact hp
  have hk9 := hk.lenX
  have hb9 := hb.lenX
  have ha9 := ha.lenX
  rw [hnk, hnb, hna, hnp]
  clear h hp
  unfold svE at hs
  obtain ⟨hsf, hsk, hsb, hsa⟩ := hs
  have hz' := hz
  unfold zE at hz'
  obtain ⟨R, hR⟩ : ∃ t, swE prF (.mk 8 nm fl bi ps ks bs al) = t := ⟨_, rfl⟩
  rw [hR]
  have hRl := swE_le hz
  rw [hR] at hRl
  rw [swE] at hR
  obtain ⟨W1, hW1⟩ : ∃ W1, w.alloc (.cells #[.int .i64 8, .string ⟨nm.toArray⟩, .bool fl, .int .u64 (bi : Int), .slice a0 np c0, .slice a1 nk c1, .slice a2 nb c2, .slice a3 na c3] 40) = W1 := ⟨_, rfl⟩
  obtain ⟨T, hT⟩ : ∃ T, w.heap.size = T := ⟨_, rfl⟩
  have f1 : Fr Nil w W1 := by rw [← hW1]; (repeat (first | (with_reducible exact Fr.refl _ _) | (with_reducible assumption) | (with_reducible exact Fr.of_nil (by assumption)) | (with_reducible refine Fr.drew ?_) | (with_reducible refine Fr.drewN ?_ _) | (with_reducible refine Fr.alloc ?_ _) | (with_reducible refine Fr.set ?_ _ _ (by first | (intros; omega) | (simp; done) | (simp; omega))) | (with_reducible refine Fr.via ?_ (by assumption)) | (with_reducible refine Fr.comp ?_ (by assumption))))
  have b1 : Blk W1 T #[.int .i64 8, .string ⟨nm.toArray⟩, .bool fl, .int .u64 (bi : Int), .slice a0 np c0, .slice a1 nk c1, .slice a2 nb c2, .slice a3 na c3] 40 := by rw [← hW1, ← hT]; exact Blk.new _ _ _
  have HK2 : Hid (∀ w', Fr Nil W1 w' → w'.cell? ⟨T, 0, none⟩ = some (.int .i64 8) ∧ w'.cell? ⟨T, 1, none⟩ = some (.string ⟨nm.toArray⟩) ∧ w'.cell? ⟨T, 2, none⟩ = some (.bool fl) ∧ w'.cell? ⟨T, 3, none⟩ = some (.int .u64 (bi : Int)) ∧ w'.cell? ⟨T, 4, none⟩ = some (.slice a0 np c0) ∧ w'.cell? ⟨T, 5, none⟩ = some (.slice a1 nk c1) ∧ w'.cell? ⟨T, 6, none⟩ = some (.slice a2 nb c2) ∧ w'.cell? ⟨T, 7, none⟩ = some (.slice a3 na c3)) := Lib.hid (fun w' f => by
    have b := f.blk b1 (fun q => q)
    have z0 := b.cell 0
    have z1 := b.cell 1
    have z2 := b.cell 2
    have z3 := b.cell 3
    have z4 := b.cell 4
    have z5 := b.cell 5
    have z6 := b.cell 6
    have z7 := b.cell 7
    simp at z0 z1 z2 z3 z4 z5 z6 z7
    exact ⟨z0, z1, z2, z3, z4, z5, z6, z7⟩)
  obtain ⟨z0, z1, z2, z3, z4, z5, z6, z7⟩ := HK2.out W1 (Fr.refl _ _)
  have zl := b1.lt
  have HF1 := Lib.hid f1
  clear b1
  rw [if_neg (by decide), if_neg (by decide), if_neg (by decide), if_neg (by decide), if_neg (by decide), if_neg (by decide), if_neg (by decide), if_pos rfl] at hR
  obtain ⟨e0, rfl⟩ : ∃ e0, ks = [e0] := by
    have h1 := hsf.2.2.2.2.2.1 (.inr (.inr rfl))
    match ks, h1 with
    | [e], _ => exact ⟨e, rfl⟩
  have hnk1 : nk = 1 := by rw [← hnk]; rfl
  subst hnk1
  have hps := hsf.2.2.2.2.2.2 rfl
  have hEA := hk2 0 (by simp)
  obtain ⟨kA, nA, fA, bA, a0A, n0A, c0A, a1A, n1A, c1A, a2A, n2A, c2A, a3A, n3A, c3A, ecA⟩ := hEA.formE
  obtain ⟨b, off, e', _, hcA⟩ := hk.at (i := 0) (by omega)
  subst e'
  rw [ecA] at hcA hEA
  have hCA : Hid (∀ w', Fr Nil W1 w' → w'.cell? ⟨b, off, none⟩ = some (.int .i64 kA) ∧ w'.cell? ⟨b, off + 1, none⟩ = some (.string nA) ∧ w'.cell? ⟨b, off + 2, none⟩ = some (.bool fA) ∧ w'.cell? ⟨b, off + 3, none⟩ = some (.int .u64 bA) ∧ w'.cell? ⟨b, off + 4, none⟩ = some (.slice a0A n0A c0A) ∧ w'.cell? ⟨b, off + 5, none⟩ = some (.slice a1A n1A c1A) ∧ w'.cell? ⟨b, off + 6, none⟩ = some (.slice a2A n2A c2A) ∧ w'.cell? ⟨b, off + 7, none⟩ = some (.slice a3A n3A c3A)) := Lib.hid (fun w' f => ⟨by have h := (f1.comp f).cell (hcA 0 _ rfl) (fun q => q); simpa using h, by have h := (f1.comp f).cell (hcA 1 _ rfl) (fun q => q); simpa using h, by have h := (f1.comp f).cell (hcA 2 _ rfl) (fun q => q); simpa using h, by have h := (f1.comp f).cell (hcA 3 _ rfl) (fun q => q); simpa using h, by have h := (f1.comp f).cell (hcA 4 _ rfl) (fun q => q); simpa using h, by have h := (f1.comp f).cell (hcA 5 _ rfl) (fun q => q); simpa using h, by have h := (f1.comp f).cell (hcA 6 _ rfl) (fun q => q); simpa using h, by have h := (f1.comp f).cell (hcA 7 _ rfl) (fun q => q); simpa using h⟩)
  have hzA : zE e0 ≤ 50000000 := by have := zK_mem (e := e0) (ks := [e0]) (by simp); omega
  have hex : ∀ w', Fr Nil W1 w' → Calls Tryd.prog 18 #[.agg #[.int .i64 kA, .string nA, .bool fA, .int .u64 bA, .slice a0A n0A c0A, .slice a1A n1A c1A, .slice a2A n2A c2A, .slice a3A n3A c3A]] w' fun r w2 => r = .returned (.string ⟨(swE prF e0).toArray⟩) ∧ Fr Nil w' w2 := fun w' f => hK e0 (by simp) w' _ (hEA.frN (f1.comp f)) hsk.1 hzA
  have hrw : ∀ w', Fr Nil W1 w' → Calls Tryd.prog 49 #[.slice a0 np c0] w' fun r w2 => r = .returned (.string ⟨(wordsF ps).toArray⟩) ∧ Fr Nil w' w2 := fun w' f => rwords_any (hp'.frN (f1.comp f)) hnp (by omega)
  rw [swX, lam_doc hps] at hR
  obtain ⟨t, ht⟩ : ∃ t, swE prF e0 = t := ⟨_, rfl⟩
  obtain ⟨u, hu⟩ : ∃ t, wordsF ps = t := ⟨_, rfl⟩
  rw [ht] at hR hex
  rw [hu] at hR hrw
  have hu1 : 1 ≤ u.length := by
    rw [← hu]
    cases ps with
    | nil => exact absurd rfl hps
    | cons x l => rw [words_cons]; simp
  obtain ⟨v, hv⟩ : ∃ t, u.drop 1 = t := ⟨_, rfl⟩
  rw [hv] at hR
  have hvl : v.length + 1 = u.length := by rw [← hv, List.length_drop]; omega
  have hul : u.length ≤ lenS ps := by rw [← hu]; exact words_len ps
  have hsl : (⟨u.toArray⟩ : ByteArray).extract 1 (⟨u.toArray⟩ : ByteArray).size = ⟨v.toArray⟩ := by
    rw [← hv]
    exact slice1 u
  have hsl2 : (⟨u.toArray⟩ : ByteArray).extract 1 u.length = ⟨v.toArray⟩ := by
    rw [← hsl]
    rfl
  obtain ⟨S1, hS1⟩ : ∃ t, [92] ++ v = t := ⟨_, rfl⟩
  rw [hS1] at hR
  have l1 : S1.length = v.length + 1 := by rw [← hS1]; simp
  obtain ⟨S2, hS2⟩ : ∃ t, S1 ++ [32, 45, 62, 32] = t := ⟨_, rfl⟩
  rw [hS2] at hR
  have l2 : S2.length = S1.length + 4 := by rw [← hS2]; simp
  have htl : t.length ≤ 50000000 := by rw [← ht]; exact swE_le hzA
  have sa1 : ∀ w, (Op.stringOp .add ⟨#[92]⟩ ⟨v.toArray⟩).run Tryd.prog w = .ok (.string ⟨S1.toArray⟩) w := fun w => by rw [← hS1]; exact sadd [92] v (by simp; omega) w
  have sa2 : ∀ w, (Op.stringOp .add ⟨S1.toArray⟩ ⟨#[32, 45, 62, 32]⟩).run Tryd.prog w = .ok (.string ⟨S2.toArray⟩) w := fun w => by rw [← hS2]; exact sadd S1 [32, 45, 62, 32] (by simp; omega) w
  have sa3 : ∀ w, (Op.stringOp .add ⟨S2.toArray⟩ ⟨t.toArray⟩).run Tryd.prog w = .ok (.string ⟨R.toArray⟩) w := fun w => by rw [← hR]; exact sadd S2 t (by omega) w
  have hu2 : (1 : Int) ≤ (u.length : Int) := by omega
  have HW := Lib.hid (And.intro hrw hex)
  clear hrw hex ht hu hv hR hS1 hS2 l1 l2 htl hul hu1 hvl hRl hK hps hzA hcA hEA ecA
  clear hp' hk hk2 hb hb2 ha ha2 hnb hna hnp hsf hsk hsb hsa hz hz' f1
  go_enter Tryd.func18, Tryd.ntmps18
  go_upto_region 19 with fail
  try rw [hT]
  try rw [hW1]
  clear hW1 hT
  have HK3 : Hid (∀ w', Fr Nil W1 w' → w'.cell? ⟨T, 0, none⟩ = some (.int .i64 8) ∧ w'.cell? ⟨T, 1, none⟩ = some (.string ⟨nm.toArray⟩) ∧ w'.cell? ⟨T, 2, none⟩ = some (.bool fl) ∧ w'.cell? ⟨T, 3, none⟩ = some (.int .u64 (bi : Int)) ∧ w'.cell? ⟨T, 4, none⟩ = some (.slice a0 np c0) ∧ w'.cell? ⟨T, 5, none⟩ = some (.slice (some ⟨b, off, none⟩) 1 c1) ∧ w'.cell? ⟨T, 6, none⟩ = some (.slice a2 nb c2) ∧ w'.cell? ⟨T, 7, none⟩ = some (.slice a3 na c3) ∧ w'.cell? ⟨b, off, none⟩ = some (.int .i64 kA) ∧ w'.cell? ⟨b, off + 1, none⟩ = some (.string nA) ∧ w'.cell? ⟨b, off + 2, none⟩ = some (.bool fA) ∧ w'.cell? ⟨b, off + 3, none⟩ = some (.int .u64 bA) ∧ w'.cell? ⟨b, off + 4, none⟩ = some (.slice a0A n0A c0A) ∧ w'.cell? ⟨b, off + 5, none⟩ = some (.slice a1A n1A c1A) ∧ w'.cell? ⟨b, off + 6, none⟩ = some (.slice a2A n2A c2A) ∧ w'.cell? ⟨b, off + 7, none⟩ = some (.slice a3A n3A c3A)) := Lib.hid (fun w' f => by
    obtain ⟨z0, z1, z2, z3, z4, z5, z6, z7⟩ := HK2.out w' f
    exact ⟨z0, z1, z2, z3, z4, z5, z6, z7, hCA.out w' f⟩)
  have hS0 := HK3.out W1 (Fr.refl _ _)
  go_region_held3 (fun w' => w'.cell? ⟨T, 0, none⟩ = some (.int .i64 8) ∧ w'.cell? ⟨T, 1, none⟩ = some (.string ⟨nm.toArray⟩) ∧ w'.cell? ⟨T, 2, none⟩ = some (.bool fl) ∧ w'.cell? ⟨T, 3, none⟩ = some (.int .u64 (bi : Int)) ∧ w'.cell? ⟨T, 4, none⟩ = some (.slice a0 np c0) ∧ w'.cell? ⟨T, 5, none⟩ = some (.slice (some ⟨b, off, none⟩) 1 c1) ∧ w'.cell? ⟨T, 6, none⟩ = some (.slice a2 nb c2) ∧ w'.cell? ⟨T, 7, none⟩ = some (.slice a3 na c3) ∧ w'.cell? ⟨b, off, none⟩ = some (.int .i64 kA) ∧ w'.cell? ⟨b, off + 1, none⟩ = some (.string nA) ∧ w'.cell? ⟨b, off + 2, none⟩ = some (.bool fA) ∧ w'.cell? ⟨b, off + 3, none⟩ = some (.int .u64 bA) ∧ w'.cell? ⟨b, off + 4, none⟩ = some (.slice a0A n0A c0A) ∧ w'.cell? ⟨b, off + 5, none⟩ = some (.slice a1A n1A c1A) ∧ w'.cell? ⟨b, off + 6, none⟩ = some (.slice a2A n2A c2A) ∧ w'.cell? ⟨b, off + 7, none⟩ = some (.slice a3A n3A c3A)) (with_reducible refine HK3.out _ ?_; (first | assumption | (repeat (first | (with_reducible exact Fr.refl _ _) | (with_reducible assumption) | (with_reducible exact Fr.of_nil (by assumption)) | (with_reducible refine Fr.drew ?_) | (with_reducible refine Fr.drewN ?_ _) | (with_reducible refine Fr.alloc ?_ _) | (with_reducible refine Fr.set ?_ _ _ (by first | (intros; omega) | (simp; done) | (simp; omega))) | (with_reducible refine Fr.via ?_ (by assumption)) | (with_reducible refine Fr.comp ?_ (by assumption)))))) (first
    | (go_at_call 49; refine (HW.out.1 _ (by first | assumption | (repeat (first | (with_reducible exact Fr.refl _ _) | (with_reducible assumption) | (with_reducible exact Fr.of_nil (by assumption)) | (with_reducible refine Fr.drew ?_) | (with_reducible refine Fr.drewN ?_ _) | (with_reducible refine Fr.alloc ?_ _) | (with_reducible refine Fr.set ?_ _ _ (by first | (intros; omega) | (simp; done) | (simp; omega))) | (with_reducible refine Fr.via ?_ (by assumption)) | (with_reducible refine Fr.comp ?_ (by assumption)))))).mono ?_; rintro r wa ⟨rfl, fa⟩; have ga : Fr Nil W1 wa := Fr.comp (S := Nil) (by first | assumption | (repeat (first | (with_reducible exact Fr.refl _ _) | (with_reducible assumption) | (with_reducible exact Fr.of_nil (by assumption)) | (with_reducible refine Fr.drew ?_) | (with_reducible refine Fr.drewN ?_ _) | (with_reducible refine Fr.alloc ?_ _) | (with_reducible refine Fr.set ?_ _ _ (by first | (intros; omega) | (simp; done) | (simp; omega))) | (with_reducible refine Fr.via ?_ (by assumption)) | (with_reducible refine Fr.comp ?_ (by assumption))))) fa; clear fa)
    | (go_at_call 18; refine (HW.out.2 _ (by first | assumption | (repeat (first | (with_reducible exact Fr.refl _ _) | (with_reducible assumption) | (with_reducible exact Fr.of_nil (by assumption)) | (with_reducible refine Fr.drew ?_) | (with_reducible refine Fr.drewN ?_ _) | (with_reducible refine Fr.alloc ?_ _) | (with_reducible refine Fr.set ?_ _ _ (by first | (intros; omega) | (simp; done) | (simp; omega))) | (with_reducible refine Fr.via ?_ (by assumption)) | (with_reducible refine Fr.comp ?_ (by assumption)))))).mono ?_; rintro r wb ⟨rfl, fb⟩; have gb : Fr Nil W1 wb := Fr.comp (S := Nil) (by first | assumption | (repeat (first | (with_reducible exact Fr.refl _ _) | (with_reducible assumption) | (with_reducible exact Fr.of_nil (by assumption)) | (with_reducible refine Fr.drew ?_) | (with_reducible refine Fr.drewN ?_ _) | (with_reducible refine Fr.alloc ?_ _) | (with_reducible refine Fr.set ?_ _ _ (by first | (intros; omega) | (simp; done) | (simp; omega))) | (with_reducible refine Fr.via ?_ (by assumption)) | (with_reducible refine Fr.comp ?_ (by assumption))))) fb; clear fb))
  all_goals
    go_wp2
    go_ret
    exact ⟨rfl, HF1.out.comp (by first | assumption | (repeat (first | (with_reducible exact Fr.refl _ _) | (with_reducible assumption) | (with_reducible exact Fr.of_nil (by assumption)) | (with_reducible refine Fr.drew ?_) | (with_reducible refine Fr.drewN ?_ _) | (with_reducible refine Fr.alloc ?_ _) | (with_reducible refine Fr.set ?_ _ _ (by first | (intros; omega) | (simp; done) | (simp; omega))) | (with_reducible refine Fr.via ?_ (by assumption)) | (with_reducible refine Fr.comp ?_ (by assumption)))))⟩
set_option maxRecDepth 100000 in
set_option maxHeartbeats 4000000 in
theorem rx_sign {ch : UInt8} {rest : List UInt8} {fl : Bool} {bi : Nat} {ps : List (List UInt8)} {ks : List TE} {bs : List TB} {al : List TA} (hl : lowF (ch :: rest) = false) (hK : ∀ e ∈ ks, RsOk e) : RsOk (.mk 5 (ch :: rest) fl bi ps ks bs al) := by
  intro w cs h hs hz
  obtain ⟨a0, c0, a1, c1, a2, c2, a3, c3, kc, bc, ac, rfl, hp, hk, hk2, hb, hb2, ha, ha2⟩ := h.opened
  obtain ⟨nk, hnk⟩ : ∃ nk, ks.length = nk := ⟨_, rfl⟩
  obtain ⟨nb, hnb⟩ : ∃ nb, bs.length = nb := ⟨_, rfl⟩
  obtain ⟨na, hna⟩ : ∃ na, al.length = na := ⟨_, rfl⟩
  obtain ⟨np, hnp⟩ : ∃ np, ps.length = np := ⟨_, rfl⟩
  rw [hnk] at hk
  rw [hnb] at hb
  rw [hna] at ha
  have hp' : RowS (fun _ => False) w (.slice a0 np c0) ps := by rw [← hnp]; exact hp
  have hk9 := hk.lenX
  have hb9 := hb.lenX
  have ha9 := ha.lenX
  rw [hnk, hnb, hna, hnp]
  clear h hp
  unfold svE at hs
  obtain ⟨hsf, hsk, hsb, hsa⟩ := hs
  have hz' := hz
  unfold zE at hz'
  obtain ⟨R, hR⟩ : ∃ t, swE prF (.mk 5 (ch :: rest) fl bi ps ks bs al) = t := ⟨_, rfl⟩
  rw [hR]
  have hRl := swE_le hz
  rw [hR] at hRl
  rw [swE] at hR
  obtain ⟨W1, hW1⟩ : ∃ W1, w.alloc (.cells #[.int .i64 5, .string ⟨(ch :: rest).toArray⟩, .bool fl, .int .u64 (bi : Int), .slice a0 np c0, .slice a1 nk c1, .slice a2 nb c2, .slice a3 na c3] 40) = W1 := ⟨_, rfl⟩
  obtain ⟨T, hT⟩ : ∃ T, w.heap.size = T := ⟨_, rfl⟩
  have f1 : Fr Nil w W1 := by rw [← hW1]; (repeat (first | (with_reducible exact Fr.refl _ _) | (with_reducible assumption) | (with_reducible exact Fr.of_nil (by assumption)) | (with_reducible refine Fr.drew ?_) | (with_reducible refine Fr.drewN ?_ _) | (with_reducible refine Fr.alloc ?_ _) | (with_reducible refine Fr.set ?_ _ _ (by first | (intros; omega) | (simp; done) | (simp; omega))) | (with_reducible refine Fr.via ?_ (by assumption)) | (with_reducible refine Fr.comp ?_ (by assumption))))
  have b1 : Blk W1 T #[.int .i64 5, .string ⟨(ch :: rest).toArray⟩, .bool fl, .int .u64 (bi : Int), .slice a0 np c0, .slice a1 nk c1, .slice a2 nb c2, .slice a3 na c3] 40 := by rw [← hW1, ← hT]; exact Blk.new _ _ _
  have HK2 : Hid (∀ w', Fr Nil W1 w' → w'.cell? ⟨T, 0, none⟩ = some (.int .i64 5) ∧ w'.cell? ⟨T, 1, none⟩ = some (.string ⟨(ch :: rest).toArray⟩) ∧ w'.cell? ⟨T, 2, none⟩ = some (.bool fl) ∧ w'.cell? ⟨T, 3, none⟩ = some (.int .u64 (bi : Int)) ∧ w'.cell? ⟨T, 4, none⟩ = some (.slice a0 np c0) ∧ w'.cell? ⟨T, 5, none⟩ = some (.slice a1 nk c1) ∧ w'.cell? ⟨T, 6, none⟩ = some (.slice a2 nb c2) ∧ w'.cell? ⟨T, 7, none⟩ = some (.slice a3 na c3)) := Lib.hid (fun w' f => by
    have b := f.blk b1 (fun q => q)
    have z0 := b.cell 0
    have z1 := b.cell 1
    have z2 := b.cell 2
    have z3 := b.cell 3
    have z4 := b.cell 4
    have z5 := b.cell 5
    have z6 := b.cell 6
    have z7 := b.cell 7
    simp at z0 z1 z2 z3 z4 z5 z6 z7
    exact ⟨z0, z1, z2, z3, z4, z5, z6, z7⟩)
  obtain ⟨z0, z1, z2, z3, z4, z5, z6, z7⟩ := HK2.out W1 (Fr.refl _ _)
  have zl := b1.lt
  have HF1 := Lib.hid f1
  clear b1
  obtain ⟨e0, e1, rfl⟩ : ∃ e0 e1, ks = [e0, e1] := by
    have h1 := (hsf.2.2.2.2.1 rfl).2.resolve_left (by rw [hl]; decide)
    match ks, h1 with
    | [e, e'], _ => exact ⟨e, e', rfl⟩
  have hnk1 : nk = 2 := by rw [← hnk]; rfl
  subst hnk1
  rw [if_neg (by decide), if_neg (by decide), if_neg (by decide), if_neg (by decide), if_pos rfl, if_neg (fun z => z.elim (fun z => by rw [hl] at z; exact absurd z (by decide)) (fun z => z rfl))] at hR
  have hEA := hk2 0 (by simp)
  obtain ⟨kA, nA, fA, bA, a0A, n0A, c0A, a1A, n1A, c1A, a2A, n2A, c2A, a3A, n3A, c3A, ecA⟩ := hEA.formE
  obtain ⟨b, off, e', _, hcA⟩ := hk.at (i := 0) (by omega)
  subst e'
  rw [ecA] at hcA hEA
  have hCA : Hid (∀ w', Fr Nil W1 w' → w'.cell? ⟨b, off, none⟩ = some (.int .i64 kA) ∧ w'.cell? ⟨b, off + 1, none⟩ = some (.string nA) ∧ w'.cell? ⟨b, off + 2, none⟩ = some (.bool fA) ∧ w'.cell? ⟨b, off + 3, none⟩ = some (.int .u64 bA) ∧ w'.cell? ⟨b, off + 4, none⟩ = some (.slice a0A n0A c0A) ∧ w'.cell? ⟨b, off + 5, none⟩ = some (.slice a1A n1A c1A) ∧ w'.cell? ⟨b, off + 6, none⟩ = some (.slice a2A n2A c2A) ∧ w'.cell? ⟨b, off + 7, none⟩ = some (.slice a3A n3A c3A)) := Lib.hid (fun w' f => ⟨by have h := (f1.comp f).cell (hcA 0 _ rfl) (fun q => q); simpa using h, by have h := (f1.comp f).cell (hcA 1 _ rfl) (fun q => q); simpa using h, by have h := (f1.comp f).cell (hcA 2 _ rfl) (fun q => q); simpa using h, by have h := (f1.comp f).cell (hcA 3 _ rfl) (fun q => q); simpa using h, by have h := (f1.comp f).cell (hcA 4 _ rfl) (fun q => q); simpa using h, by have h := (f1.comp f).cell (hcA 5 _ rfl) (fun q => q); simpa using h, by have h := (f1.comp f).cell (hcA 6 _ rfl) (fun q => q); simpa using h, by have h := (f1.comp f).cell (hcA 7 _ rfl) (fun q => q); simpa using h⟩)
  have hEB := hk2 1 (by simp)
  obtain ⟨kB, nB, fB, bB, a0B, n0B, c0B, a1B, n1B, c1B, a2B, n2B, c2B, a3B, n3B, c3B, ecB⟩ := hEB.formE
  obtain ⟨b', off', e', _, hcB⟩ := hk.at (i := 1) (by omega)
  injection e' with e'
  injection e' with e1 e2
  subst e1 e2
  rw [ecB] at hcB hEB
  have hCB : Hid (∀ w', Fr Nil W1 w' → w'.cell? ⟨b, off + 8, none⟩ = some (.int .i64 kB) ∧ w'.cell? ⟨b, off + 9, none⟩ = some (.string nB) ∧ w'.cell? ⟨b, off + 10, none⟩ = some (.bool fB) ∧ w'.cell? ⟨b, off + 11, none⟩ = some (.int .u64 bB) ∧ w'.cell? ⟨b, off + 12, none⟩ = some (.slice a0B n0B c0B) ∧ w'.cell? ⟨b, off + 13, none⟩ = some (.slice a1B n1B c1B) ∧ w'.cell? ⟨b, off + 14, none⟩ = some (.slice a2B n2B c2B) ∧ w'.cell? ⟨b, off + 15, none⟩ = some (.slice a3B n3B c3B)) := Lib.hid (fun w' f => ⟨by have h := (f1.comp f).cell (hcB 0 _ rfl) (fun q => q); simpa using h, by have h := (f1.comp f).cell (hcB 1 _ rfl) (fun q => q); simpa using h, by have h := (f1.comp f).cell (hcB 2 _ rfl) (fun q => q); simpa using h, by have h := (f1.comp f).cell (hcB 3 _ rfl) (fun q => q); simpa using h, by have h := (f1.comp f).cell (hcB 4 _ rfl) (fun q => q); simpa using h, by have h := (f1.comp f).cell (hcB 5 _ rfl) (fun q => q); simpa using h, by have h := (f1.comp f).cell (hcB 6 _ rfl) (fun q => q); simpa using h, by have h := (f1.comp f).cell (hcB 7 _ rfl) (fun q => q); simpa using h⟩)
  have hzA : zE e0 ≤ 50000000 := by have := zK_mem (e := e0) (ks := [e0, e1]) (by simp); omega
  have hatA : ∀ w', Fr Nil W1 w' → Calls Tryd.prog 48 #[.agg #[.int .i64 kA, .string nA, .bool fA, .int .u64 bA, .slice a0A n0A c0A, .slice a1A n1A c1A, .slice a2A n2A c2A, .slice a3A n3A c3A]] w' fun r w2 => r = .returned (.string ⟨(atomF e0 (swE prF e0)).toArray⟩) ∧ Fr Nil w' w2 := fun w' f => ratom_any (hEA.frN (f1.comp f)) (by have := swE_le hzA; omega) (fun w2 f2 => hK e0 (by simp) w2 _ ((hEA.frN (f1.comp f)).frN f2) hsk.1 hzA)
  have hlenA : (atomF e0 (swE prF e0)).length ≤ 50000002 := by have := swE_le hzA; have := atom_len e0 (swE prF e0); omega
  have hzB : zE e1 ≤ 50000000 := by have := zK_mem (e := e1) (ks := [e0, e1]) (by simp); omega
  have hatB : ∀ w', Fr Nil W1 w' → Calls Tryd.prog 48 #[.agg #[.int .i64 kB, .string nB, .bool fB, .int .u64 bB, .slice a0B n0B c0B, .slice a1B n1B c1B, .slice a2B n2B c2B, .slice a3B n3B c3B]] w' fun r w2 => r = .returned (.string ⟨(atomF e1 (swE prF e1)).toArray⟩) ∧ Fr Nil w' w2 := fun w' f => ratom_any (hEB.frN (f1.comp f)) (by have := swE_le hzB; omega) (fun w2 f2 => hK e1 (by simp) w2 _ ((hEB.frN (f1.comp f)).frN f2) hsk.2.1 hzB)
  have hlenB : (atomF e1 (swE prF e1)).length ≤ 50000002 := by have := swE_le hzB; have := atom_len e1 (swE prF e1); omega
  have hj : joinS [(swK prF [e0, e1]).headD [], ch :: rest, ((swK prF [e0, e1]).drop 1).headD []] = atomF e0 (swE prF e0) ++ [32] ++ (ch :: rest) ++ [32] ++ atomF e1 (swE prF e1) := by
    rw [swK_map]
    exact sign_doc _ _ _
  rw [hj] at hR
  obtain ⟨t, ht⟩ : ∃ t, atomF e0 (swE prF e0) = t := ⟨_, rfl⟩
  obtain ⟨u, hu⟩ : ∃ t, atomF e1 (swE prF e1) = t := ⟨_, rfl⟩
  rw [ht, hu] at hR
  rw [ht] at hatA hlenA
  rw [hu] at hatB hlenB
  obtain ⟨S1, hS1⟩ : ∃ x, t ++ [32] = x := ⟨_, rfl⟩
  rw [hS1] at hR
  have l1 : S1.length = t.length + 1 := by rw [← hS1]; simp
  obtain ⟨S2, hS2⟩ : ∃ x, S1 ++ (ch :: rest) = x := ⟨_, rfl⟩
  rw [hS2] at hR
  have l2 : S2.length = S1.length + (ch :: rest).length := by rw [← hS2, List.length_append]
  obtain ⟨S3, hS3⟩ : ∃ x, S2 ++ [32] = x := ⟨_, rfl⟩
  rw [hS3] at hR
  have l3 : S3.length = S2.length + 1 := by rw [← hS3]; simp
  have sa1 : ∀ w, (Op.stringOp .add ⟨t.toArray⟩ ⟨#[32]⟩).run Tryd.prog w = .ok (.string ⟨S1.toArray⟩) w := fun w => by rw [← hS1]; exact sadd t [32] (by simp; omega) w
  have sa2 : ∀ w, (Op.stringOp .add ⟨S1.toArray⟩ ⟨(ch :: rest).toArray⟩).run Tryd.prog w = .ok (.string ⟨S2.toArray⟩) w := fun w => by rw [← hS2]; exact sadd S1 (ch :: rest) (by omega) w
  have sa3 : ∀ w, (Op.stringOp .add ⟨S2.toArray⟩ ⟨#[32]⟩).run Tryd.prog w = .ok (.string ⟨S3.toArray⟩) w := fun w => by rw [← hS3]; exact sadd S2 [32] (by simp; omega) w
  have sa4 : ∀ w, (Op.stringOp .add ⟨S3.toArray⟩ ⟨u.toArray⟩).run Tryd.prog w = .ok (.string ⟨R.toArray⟩) w := fun w => by rw [← hR]; exact sadd S3 u (by omega) w
  have hq : ¬ (97 : Int) ≤ (ch.toNat : Int) ∨ ((97 : Int) ≤ (ch.toNat : Int) ∧ ¬ (ch.toNat : Int) ≤ 122) := by
    have h2 : ¬ (97 ≤ ch.toNat ∧ ch.toNat ≤ 122) := by
      intro z
      have h3 : lowF (ch :: rest) = true := by simp [lowF, z.1, z.2]
      rw [hl] at h3
      exact absurd h3 (by decide)
    omega
  have hix : ∀ h, (⟨(ch :: rest).toArray⟩ : ByteArray)[0]'h = ch := fun _ => rfl
  have HW := Lib.hid (And.intro hatA hatB)
  clear hatA hatB hlenA hlenB ht hu hR hS1 hS2 hS3 l1 l2 l3 hj hRl hK hzA hzB hcA hcB hEA hEB ecA ecB hl
  clear hp' hk hk2 hb hb2 ha ha2 hnb hna hnp hsf hsk hsb hsa hz hz' f1
  have HK3 : Hid (∀ w', Fr Nil W1 w' → w'.cell? ⟨T, 0, none⟩ = some (.int .i64 5) ∧ w'.cell? ⟨T, 1, none⟩ = some (.string ⟨(ch :: rest).toArray⟩) ∧ w'.cell? ⟨T, 2, none⟩ = some (.bool fl) ∧ w'.cell? ⟨T, 3, none⟩ = some (.int .u64 (bi : Int)) ∧ w'.cell? ⟨T, 4, none⟩ = some (.slice a0 np c0) ∧ w'.cell? ⟨T, 5, none⟩ = some (.slice (some ⟨b, off, none⟩) 2 c1) ∧ w'.cell? ⟨T, 6, none⟩ = some (.slice a2 nb c2) ∧ w'.cell? ⟨T, 7, none⟩ = some (.slice a3 na c3) ∧ (w'.cell? ⟨b, off, none⟩ = some (.int .i64 kA) ∧ w'.cell? ⟨b, off + 1, none⟩ = some (.string nA) ∧ w'.cell? ⟨b, off + 2, none⟩ = some (.bool fA) ∧ w'.cell? ⟨b, off + 3, none⟩ = some (.int .u64 bA) ∧ w'.cell? ⟨b, off + 4, none⟩ = some (.slice a0A n0A c0A) ∧ w'.cell? ⟨b, off + 5, none⟩ = some (.slice a1A n1A c1A) ∧ w'.cell? ⟨b, off + 6, none⟩ = some (.slice a2A n2A c2A) ∧ w'.cell? ⟨b, off + 7, none⟩ = some (.slice a3A n3A c3A)) ∧ w'.cell? ⟨b, off + 8, none⟩ = some (.int .i64 kB) ∧ w'.cell? ⟨b, off + 9, none⟩ = some (.string nB) ∧ w'.cell? ⟨b, off + 10, none⟩ = some (.bool fB) ∧ w'.cell? ⟨b, off + 11, none⟩ = some (.int .u64 bB) ∧ w'.cell? ⟨b, off + 12, none⟩ = some (.slice a0B n0B c0B) ∧ w'.cell? ⟨b, off + 13, none⟩ = some (.slice a1B n1B c1B) ∧ w'.cell? ⟨b, off + 14, none⟩ = some (.slice a2B n2B c2B) ∧ w'.cell? ⟨b, off + 15, none⟩ = some (.slice a3B n3B c3B)) := Lib.hid (fun w' f => by
    obtain ⟨z0, z1, z2, z3, z4, z5, z6, z7⟩ := HK2.out w' f
    exact ⟨z0, z1, z2, z3, z4, z5, z6, z7, hCA.out w' f, hCB.out w' f⟩)
  have hS0 := HK3.out W1 (Fr.refl _ _)
  rcases hq with q1 | ⟨q0, q1⟩
  · go_enter Tryd.func18, Tryd.ntmps18
    go_upto_region 11 with fail
    try rw [hT]
    try rw [hW1]
    clear hW1 hT
    go_region_held3 (fun w' => w'.cell? ⟨T, 0, none⟩ = some (.int .i64 5) ∧ w'.cell? ⟨T, 1, none⟩ = some (.string ⟨(ch :: rest).toArray⟩) ∧ w'.cell? ⟨T, 2, none⟩ = some (.bool fl) ∧ w'.cell? ⟨T, 3, none⟩ = some (.int .u64 (bi : Int)) ∧ w'.cell? ⟨T, 4, none⟩ = some (.slice a0 np c0) ∧ w'.cell? ⟨T, 5, none⟩ = some (.slice (some ⟨b, off, none⟩) 2 c1) ∧ w'.cell? ⟨T, 6, none⟩ = some (.slice a2 nb c2) ∧ w'.cell? ⟨T, 7, none⟩ = some (.slice a3 na c3) ∧ (w'.cell? ⟨b, off, none⟩ = some (.int .i64 kA) ∧ w'.cell? ⟨b, off + 1, none⟩ = some (.string nA) ∧ w'.cell? ⟨b, off + 2, none⟩ = some (.bool fA) ∧ w'.cell? ⟨b, off + 3, none⟩ = some (.int .u64 bA) ∧ w'.cell? ⟨b, off + 4, none⟩ = some (.slice a0A n0A c0A) ∧ w'.cell? ⟨b, off + 5, none⟩ = some (.slice a1A n1A c1A) ∧ w'.cell? ⟨b, off + 6, none⟩ = some (.slice a2A n2A c2A) ∧ w'.cell? ⟨b, off + 7, none⟩ = some (.slice a3A n3A c3A)) ∧ w'.cell? ⟨b, off + 8, none⟩ = some (.int .i64 kB) ∧ w'.cell? ⟨b, off + 9, none⟩ = some (.string nB) ∧ w'.cell? ⟨b, off + 10, none⟩ = some (.bool fB) ∧ w'.cell? ⟨b, off + 11, none⟩ = some (.int .u64 bB) ∧ w'.cell? ⟨b, off + 12, none⟩ = some (.slice a0B n0B c0B) ∧ w'.cell? ⟨b, off + 13, none⟩ = some (.slice a1B n1B c1B) ∧ w'.cell? ⟨b, off + 14, none⟩ = some (.slice a2B n2B c2B) ∧ w'.cell? ⟨b, off + 15, none⟩ = some (.slice a3B n3B c3B)) (with_reducible refine HK3.out _ ?_; (first | assumption | (repeat (first | (with_reducible exact Fr.refl _ _) | (with_reducible assumption) | (with_reducible exact Fr.of_nil (by assumption)) | (with_reducible refine Fr.drew ?_) | (with_reducible refine Fr.drewN ?_ _) | (with_reducible refine Fr.alloc ?_ _) | (with_reducible refine Fr.set ?_ _ _ (by first | (intros; omega) | (simp; done) | (simp; omega))) | (with_reducible refine Fr.via ?_ (by assumption)) | (with_reducible refine Fr.comp ?_ (by assumption)))))) (first
      | (go_at_call 48; with_reducible refine (HW.out.1 _ (by first | assumption | (repeat (first | (with_reducible exact Fr.refl _ _) | (with_reducible assumption) | (with_reducible exact Fr.of_nil (by assumption)) | (with_reducible refine Fr.drew ?_) | (with_reducible refine Fr.drewN ?_ _) | (with_reducible refine Fr.alloc ?_ _) | (with_reducible refine Fr.set ?_ _ _ (by first | (intros; omega) | (simp; done) | (simp; omega))) | (with_reducible refine Fr.via ?_ (by assumption)) | (with_reducible refine Fr.comp ?_ (by assumption)))))).mono ?_; rintro r wa ⟨rfl, fa⟩; have ga : Fr Nil W1 wa := Fr.comp (S := Nil) (by first | assumption | (repeat (first | (with_reducible exact Fr.refl _ _) | (with_reducible assumption) | (with_reducible exact Fr.of_nil (by assumption)) | (with_reducible refine Fr.drew ?_) | (with_reducible refine Fr.drewN ?_ _) | (with_reducible refine Fr.alloc ?_ _) | (with_reducible refine Fr.set ?_ _ _ (by first | (intros; omega) | (simp; done) | (simp; omega))) | (with_reducible refine Fr.via ?_ (by assumption)) | (with_reducible refine Fr.comp ?_ (by assumption))))) fa; clear fa)
      | (go_at_call 48; with_reducible refine (HW.out.2 _ (by first | assumption | (repeat (first | (with_reducible exact Fr.refl _ _) | (with_reducible assumption) | (with_reducible exact Fr.of_nil (by assumption)) | (with_reducible refine Fr.drew ?_) | (with_reducible refine Fr.drewN ?_ _) | (with_reducible refine Fr.alloc ?_ _) | (with_reducible refine Fr.set ?_ _ _ (by first | (intros; omega) | (simp; done) | (simp; omega))) | (with_reducible refine Fr.via ?_ (by assumption)) | (with_reducible refine Fr.comp ?_ (by assumption)))))).mono ?_; rintro r wb ⟨rfl, fb⟩; have gb : Fr Nil W1 wb := Fr.comp (S := Nil) (by first | assumption | (repeat (first | (with_reducible exact Fr.refl _ _) | (with_reducible assumption) | (with_reducible exact Fr.of_nil (by assumption)) | (with_reducible refine Fr.drew ?_) | (with_reducible refine Fr.drewN ?_ _) | (with_reducible refine Fr.alloc ?_ _) | (with_reducible refine Fr.set ?_ _ _ (by first | (intros; omega) | (simp; done) | (simp; omega))) | (with_reducible refine Fr.via ?_ (by assumption)) | (with_reducible refine Fr.comp ?_ (by assumption))))) fb; clear fb))
    all_goals
      go_wp2
      go_ret
      exact ⟨rfl, HF1.out.comp (by first | assumption | (repeat (first | (with_reducible exact Fr.refl _ _) | (with_reducible assumption) | (with_reducible exact Fr.of_nil (by assumption)) | (with_reducible refine Fr.drew ?_) | (with_reducible refine Fr.drewN ?_ _) | (with_reducible refine Fr.alloc ?_ _) | (with_reducible refine Fr.set ?_ _ _ (by first | (intros; omega) | (simp; done) | (simp; omega))) | (with_reducible refine Fr.via ?_ (by assumption)) | (with_reducible refine Fr.comp ?_ (by assumption)))))⟩
  · go_enter Tryd.func18, Tryd.ntmps18
    go_upto_region 11 with fail
    try rw [hT]
    try rw [hW1]
    clear hW1 hT
    go_region_held3 (fun w' => w'.cell? ⟨T, 0, none⟩ = some (.int .i64 5) ∧ w'.cell? ⟨T, 1, none⟩ = some (.string ⟨(ch :: rest).toArray⟩) ∧ w'.cell? ⟨T, 2, none⟩ = some (.bool fl) ∧ w'.cell? ⟨T, 3, none⟩ = some (.int .u64 (bi : Int)) ∧ w'.cell? ⟨T, 4, none⟩ = some (.slice a0 np c0) ∧ w'.cell? ⟨T, 5, none⟩ = some (.slice (some ⟨b, off, none⟩) 2 c1) ∧ w'.cell? ⟨T, 6, none⟩ = some (.slice a2 nb c2) ∧ w'.cell? ⟨T, 7, none⟩ = some (.slice a3 na c3) ∧ (w'.cell? ⟨b, off, none⟩ = some (.int .i64 kA) ∧ w'.cell? ⟨b, off + 1, none⟩ = some (.string nA) ∧ w'.cell? ⟨b, off + 2, none⟩ = some (.bool fA) ∧ w'.cell? ⟨b, off + 3, none⟩ = some (.int .u64 bA) ∧ w'.cell? ⟨b, off + 4, none⟩ = some (.slice a0A n0A c0A) ∧ w'.cell? ⟨b, off + 5, none⟩ = some (.slice a1A n1A c1A) ∧ w'.cell? ⟨b, off + 6, none⟩ = some (.slice a2A n2A c2A) ∧ w'.cell? ⟨b, off + 7, none⟩ = some (.slice a3A n3A c3A)) ∧ w'.cell? ⟨b, off + 8, none⟩ = some (.int .i64 kB) ∧ w'.cell? ⟨b, off + 9, none⟩ = some (.string nB) ∧ w'.cell? ⟨b, off + 10, none⟩ = some (.bool fB) ∧ w'.cell? ⟨b, off + 11, none⟩ = some (.int .u64 bB) ∧ w'.cell? ⟨b, off + 12, none⟩ = some (.slice a0B n0B c0B) ∧ w'.cell? ⟨b, off + 13, none⟩ = some (.slice a1B n1B c1B) ∧ w'.cell? ⟨b, off + 14, none⟩ = some (.slice a2B n2B c2B) ∧ w'.cell? ⟨b, off + 15, none⟩ = some (.slice a3B n3B c3B)) (with_reducible refine HK3.out _ ?_; (first | assumption | (repeat (first | (with_reducible exact Fr.refl _ _) | (with_reducible assumption) | (with_reducible exact Fr.of_nil (by assumption)) | (with_reducible refine Fr.drew ?_) | (with_reducible refine Fr.drewN ?_ _) | (with_reducible refine Fr.alloc ?_ _) | (with_reducible refine Fr.set ?_ _ _ (by first | (intros; omega) | (simp; done) | (simp; omega))) | (with_reducible refine Fr.via ?_ (by assumption)) | (with_reducible refine Fr.comp ?_ (by assumption)))))) (first
      | (go_at_call 48; with_reducible refine (HW.out.1 _ (by first | assumption | (repeat (first | (with_reducible exact Fr.refl _ _) | (with_reducible assumption) | (with_reducible exact Fr.of_nil (by assumption)) | (with_reducible refine Fr.drew ?_) | (with_reducible refine Fr.drewN ?_ _) | (with_reducible refine Fr.alloc ?_ _) | (with_reducible refine Fr.set ?_ _ _ (by first | (intros; omega) | (simp; done) | (simp; omega))) | (with_reducible refine Fr.via ?_ (by assumption)) | (with_reducible refine Fr.comp ?_ (by assumption)))))).mono ?_; rintro r wa ⟨rfl, fa⟩; have ga : Fr Nil W1 wa := Fr.comp (S := Nil) (by first | assumption | (repeat (first | (with_reducible exact Fr.refl _ _) | (with_reducible assumption) | (with_reducible exact Fr.of_nil (by assumption)) | (with_reducible refine Fr.drew ?_) | (with_reducible refine Fr.drewN ?_ _) | (with_reducible refine Fr.alloc ?_ _) | (with_reducible refine Fr.set ?_ _ _ (by first | (intros; omega) | (simp; done) | (simp; omega))) | (with_reducible refine Fr.via ?_ (by assumption)) | (with_reducible refine Fr.comp ?_ (by assumption))))) fa; clear fa)
      | (go_at_call 48; with_reducible refine (HW.out.2 _ (by first | assumption | (repeat (first | (with_reducible exact Fr.refl _ _) | (with_reducible assumption) | (with_reducible exact Fr.of_nil (by assumption)) | (with_reducible refine Fr.drew ?_) | (with_reducible refine Fr.drewN ?_ _) | (with_reducible refine Fr.alloc ?_ _) | (with_reducible refine Fr.set ?_ _ _ (by first | (intros; omega) | (simp; done) | (simp; omega))) | (with_reducible refine Fr.via ?_ (by assumption)) | (with_reducible refine Fr.comp ?_ (by assumption)))))).mono ?_; rintro r wb ⟨rfl, fb⟩; have gb : Fr Nil W1 wb := Fr.comp (S := Nil) (by first | assumption | (repeat (first | (with_reducible exact Fr.refl _ _) | (with_reducible assumption) | (with_reducible exact Fr.of_nil (by assumption)) | (with_reducible refine Fr.drew ?_) | (with_reducible refine Fr.drewN ?_ _) | (with_reducible refine Fr.alloc ?_ _) | (with_reducible refine Fr.set ?_ _ _ (by first | (intros; omega) | (simp; done) | (simp; omega))) | (with_reducible refine Fr.via ?_ (by assumption)) | (with_reducible refine Fr.comp ?_ (by assumption))))) fb; clear fb))
    all_goals
      go_wp2
      go_ret
      exact ⟨rfl, HF1.out.comp (by first | assumption | (repeat (first | (with_reducible exact Fr.refl _ _) | (with_reducible assumption) | (with_reducible exact Fr.of_nil (by assumption)) | (with_reducible refine Fr.drew ?_) | (with_reducible refine Fr.drewN ?_ _) | (with_reducible refine Fr.alloc ?_ _) | (with_reducible refine Fr.set ?_ _ _ (by first | (intros; omega) | (simp; done) | (simp; omega))) | (with_reducible refine Fr.via ?_ (by assumption)) | (with_reducible refine Fr.comp ?_ (by assumption)))))⟩
end Go.Proofs.YtpjlibbdngnnnaaDoor

namespace Go.Proofs.YtpjlibbdngnnnaaDoor
set_option linter.unusedSimpArgs false
set_option linter.unusedVariables false
open Go.RowKit

theorem RowC.capX {X : Nat → Prop} {w : World} {a : Option Addr} {n c size : Nat} {cs : Nat → List Value} (h : RowC X w (.slice a n c) n size cs) : c ≤ 9223372036854775807 := by
  obtain ⟨_, _, e, _, q2, _⟩ := h
  cases e
  unfold maxLen at q2
  omega
set_option maxRecDepth 100000 in
set_option maxHeartbeats 4000000 in
theorem rx_app {nm : List UInt8} {fl : Bool} {bi : Nat} {ps : List (List UInt8)} {ks : List TE} {bs : List TB} {al : List TA} (hK : ∀ e ∈ ks, RsOk e) : RsOk (.mk 4 nm fl bi ps ks bs al) := by
  intro w cs h hs hz
  obtain ⟨a0, c0, a1, c1, a2, c2, a3, c3, kc, bc, ac, rfl, hp, hk, hk2, hb, hb2, ha, ha2⟩ := h.opened
  obtain ⟨nk, hnk⟩ : ∃ nk, ks.length = nk := ⟨_, rfl⟩
  obtain ⟨nb, hnb⟩ : ∃ nb, bs.length = nb := ⟨_, rfl⟩
  obtain ⟨na, hna⟩ : ∃ na, al.length = na := ⟨_, rfl⟩
  obtain ⟨np, hnp⟩ : ∃ np, ps.length = np := ⟨_, rfl⟩
  rw [hnk] at hk
  rw [hnb] at hb
  rw [hna] at ha
  have hp' : RowS (fun _ => False) w (.slice a0 np c0) ps := by rw [← hnp]; exact hp
  have hk9 := hk.lenX
  have hb9 := hb.lenX
  have ha9 := ha.lenX
  rw [hnk, hnb, hna, hnp]
  clear h hp
  unfold svE at hs
  obtain ⟨hsf, hsk, hsb, hsa⟩ := hs
  have hz' := hz
  unfold zE at hz'
  obtain ⟨R, hR⟩ : ∃ t, swE prF (.mk 4 nm fl bi ps ks bs al) = t := ⟨_, rfl⟩
  rw [hR]
  have hRl := swE_le hz
  rw [hR] at hRl
  rw [swE] at hR
  obtain ⟨W1, hW1⟩ : ∃ W1, w.alloc (.cells #[.int .i64 4, .string ⟨nm.toArray⟩, .bool fl, .int .u64 (bi : Int), .slice a0 np c0, .slice a1 nk c1, .slice a2 nb c2, .slice a3 na c3] 40) = W1 := ⟨_, rfl⟩
  obtain ⟨T, hT⟩ : ∃ T, w.heap.size = T := ⟨_, rfl⟩
  have f1 : Fr Nil w W1 := by rw [← hW1]; (repeat (first | (with_reducible exact Fr.refl _ _) | (with_reducible assumption) | (with_reducible exact Fr.of_nil (by assumption)) | (with_reducible refine Fr.drew ?_) | (with_reducible refine Fr.drewN ?_ _) | (with_reducible refine Fr.alloc ?_ _) | (with_reducible refine Fr.set ?_ _ _ (by first | (intros; omega) | (simp; done) | (simp; omega))) | (with_reducible refine Fr.via ?_ (by assumption)) | (with_reducible refine Fr.comp ?_ (by assumption))))
  have b1 : Blk W1 T #[.int .i64 4, .string ⟨nm.toArray⟩, .bool fl, .int .u64 (bi : Int), .slice a0 np c0, .slice a1 nk c1, .slice a2 nb c2, .slice a3 na c3] 40 := by rw [← hW1, ← hT]; exact Blk.new _ _ _
  have HK2 : Hid (∀ w', Fr Nil W1 w' → w'.cell? ⟨T, 0, none⟩ = some (.int .i64 4) ∧ w'.cell? ⟨T, 1, none⟩ = some (.string ⟨nm.toArray⟩) ∧ w'.cell? ⟨T, 2, none⟩ = some (.bool fl) ∧ w'.cell? ⟨T, 3, none⟩ = some (.int .u64 (bi : Int)) ∧ w'.cell? ⟨T, 4, none⟩ = some (.slice a0 np c0) ∧ w'.cell? ⟨T, 5, none⟩ = some (.slice a1 nk c1) ∧ w'.cell? ⟨T, 6, none⟩ = some (.slice a2 nb c2) ∧ w'.cell? ⟨T, 7, none⟩ = some (.slice a3 na c3)) := Lib.hid (fun w' f => by
    have b := f.blk b1 (fun q => q)
    have z0 := b.cell 0
    have z1 := b.cell 1
    have z2 := b.cell 2
    have z3 := b.cell 3
    have z4 := b.cell 4
    have z5 := b.cell 5
    have z6 := b.cell 6
    have z7 := b.cell 7
    simp at z0 z1 z2 z3 z4 z5 z6 z7
    exact ⟨z0, z1, z2, z3, z4, z5, z6, z7⟩)
  obtain ⟨z0, z1, z2, z3, z4, z5, z6, z7⟩ := HK2.out W1 (Fr.refl _ _)
  have zl := b1.lt
  have HF1 := Lib.hid f1
  clear b1
  rw [if_neg (by decide), if_neg (by decide), if_neg (by decide), if_pos rfl] at hR
  obtain ⟨e0, l, rfl⟩ : ∃ e0 l, ks = e0 :: l := by
    have h1 := hsf.2.2.2.1 rfl
    match ks, h1 with
    | e :: l, _ => exact ⟨e, l, rfl⟩
  obtain ⟨m, hm⟩ : ∃ m, l.length = m := ⟨_, rfl⟩
  have hnk1 : nk = m + 1 := by rw [← hnk, ← hm]; rfl
  subst hnk1
  have hE0 : EAt (fun _ => False) w (kc 0) e0 := hk2 0 (by simp)
  obtain ⟨k0, m0, g0, i0, ps0, ks0, bs0, al0⟩ := e0
  obtain ⟨p0, q0, p1, q1, p2, q2, p3, q3, kc0, bc0, ac0, ec0, _, hkk0, _, _, _, _, _⟩ := hE0.opened
  obtain ⟨np0, hnp0⟩ : ∃ n, ps0.length = n := ⟨_, rfl⟩
  obtain ⟨nk0, hnk0⟩ : ∃ n, ks0.length = n := ⟨_, rfl⟩
  obtain ⟨nb0, hnb0⟩ : ∃ n, bs0.length = n := ⟨_, rfl⟩
  obtain ⟨na0, hna0⟩ : ∃ n, al0.length = n := ⟨_, rfl⟩
  rw [hnp0, hnk0, hnb0, hna0] at ec0
  have hk09 : nk0 ≤ 9223372036854775807 := by rw [← hnk0]; exact hkk0.lenX
  obtain ⟨b, off, e', _, hc0⟩ := hk.at (i := 0) (by omega)
  subst e'
  rw [ec0] at hc0 hE0
  have hC0 : Hid (∀ w', Fr Nil W1 w' → w'.cell? ⟨b, off, none⟩ = some (.int .i64 (k0 : Int)) ∧ w'.cell? ⟨b, off + 1, none⟩ = some (.string ⟨m0.toArray⟩) ∧ w'.cell? ⟨b, off + 2, none⟩ = some (.bool g0) ∧ w'.cell? ⟨b, off + 3, none⟩ = some (.int .u64 (i0 : Int)) ∧ w'.cell? ⟨b, off + 4, none⟩ = some (.slice p0 np0 q0) ∧ w'.cell? ⟨b, off + 5, none⟩ = some (.slice p1 nk0 q1) ∧ w'.cell? ⟨b, off + 6, none⟩ = some (.slice p2 nb0 q2) ∧ w'.cell? ⟨b, off + 7, none⟩ = some (.slice p3 na0 q3)) := Lib.hid (fun w' f => ⟨by have h := (f1.comp f).cell (hc0 0 _ rfl) (fun q => q); simpa using h, by have h := (f1.comp f).cell (hc0 1 _ rfl) (fun q => q); simpa using h, by have h := (f1.comp f).cell (hc0 2 _ rfl) (fun q => q); simpa using h, by have h := (f1.comp f).cell (hc0 3 _ rfl) (fun q => q); simpa using h, by have h := (f1.comp f).cell (hc0 4 _ rfl) (fun q => q); simpa using h, by have h := (f1.comp f).cell (hc0 5 _ rfl) (fun q => q); simpa using h, by have h := (f1.comp f).cell (hc0 6 _ rfl) (fun q => q); simpa using h, by have h := (f1.comp f).cell (hc0 7 _ rfl) (fun q => q); simpa using h⟩)
  have hz0 : zE (.mk k0 m0 g0 i0 ps0 ks0 bs0 al0) ≤ 50000000 := by have := zK_mem (e := .mk k0 m0 g0 i0 ps0 ks0 bs0 al0) (ks := .mk k0 m0 g0 i0 ps0 ks0 bs0 al0 :: l) (by simp); omega
  have hzl : zK l ≤ 50000000 := by
    have e : zK (.mk k0 m0 g0 i0 ps0 ks0 bs0 al0 :: l) = zE (.mk k0 m0 g0 i0 ps0 ks0 bs0 al0) + 8 + zK l := rfl
    omega
  have hat : ∀ w', Fr Nil W1 w' → Calls Tryd.prog 48 #[.agg #[.int .i64 (k0 : Int), .string ⟨m0.toArray⟩, .bool g0, .int .u64 (i0 : Int), .slice p0 np0 q0, .slice p1 nk0 q1, .slice p2 nb0 q2, .slice p3 na0 q3]] w' fun r w2 => r = .returned (.string ⟨(atomF (.mk k0 m0 g0 i0 ps0 ks0 bs0 al0) (swE prF (.mk k0 m0 g0 i0 ps0 ks0 bs0 al0))).toArray⟩) ∧ Fr Nil w' w2 := fun w' f => ratom_any (hE0.frN (f1.comp f)) (by have := swE_le hz0; omega) (fun w2 f2 => hK _ (by simp) w2 _ ((hE0.frN (f1.comp f)).frN f2) hsk.1 hz0)
  have hkids : ∀ (A : Option Addr) (hA : 0 < m → A = some ⟨b, off + 8, none⟩), ∀ w', Fr Nil W1 w' → Calls Tryd.prog 47 #[.slice A m (c1 - 1)] w' fun r w2 => r = .returned (.string ⟨(wordsF (swK prF l)).toArray⟩) ∧ Fr Nil w' w2 := fun A hA w' f =>
    rkids_any (RowC.tail (hk.frN (f1.comp f)) A hA) (fun i hi => (hk2 (i + 1) (by simp; omega)).frN (f1.comp f)) hm (fun e he => hK e (by simp [he])) hsk.2 hzl
  obtain ⟨t, ht⟩ : ∃ t, atomF (.mk k0 m0 g0 i0 ps0 ks0 bs0 al0) (swE prF (.mk k0 m0 g0 i0 ps0 ks0 bs0 al0)) = t := ⟨_, rfl⟩
  obtain ⟨u, hu⟩ : ∃ t, wordsF (swK prF l) = t := ⟨_, rfl⟩
  have htl : t.length ≤ 50000002 := by have := swE_le hz0; have := atom_len (.mk k0 m0 g0 i0 ps0 ks0 bs0 al0) (swE prF (.mk k0 m0 g0 i0 ps0 ks0 bs0 al0)); rw [ht] at this; omega
  rw [ht] at hat
  simp only [hu] at hkids
  have hR2 : R = (if (decide (nk0 = 0) && (decide (k0 = 2) || decide (k0 = 5))) = true then parF t else t) ++ u := by
    rw [← hR, swK, ht]
    show joinS ((if nakedE (.mk k0 m0 g0 i0 ps0 ks0 bs0 al0) = true then parF t else t) :: swK prF l) = _
    rw [joinS_cons, hu]
    have e : ks0.isEmpty = decide (nk0 = 0) := by
      cases ks0 with
      | nil => rw [← hnk0]; rfl
      | cons x l => rw [← hnk0]; simp
    show (if (ks0.isEmpty && (decide (k0 = 2) || decide (k0 = 5))) = true then parF t else t) ++ u = _
    rw [e]
  have hul : u.length ≤ 50000000 := by
    have h1 := swK_len prF prF_len l
    have h2 := words_len (swK prF l)
    rw [hu] at h2
    omega
  have hcc : m + 1 ≤ c1 := by
    obtain ⟨_, _, e9, h9, _, _⟩ := hk
    cases e9
    exact h9
  have hc9 := hk.capX
  have HW := Lib.hid (And.intro hat (And.intro hkids (And.intro hR2 (And.intro htl hul))))
  clear hat hkids hR2 htl hul ht hu hR hRl hK hz0 hzl hc0 hE0 ec0 hkk0 hnp0 hnk0 hnb0 hna0 hm hk2 hk hb hb2 ha ha2 hp' hnk hnb hna hnp hsf hsk hsb hsa hz hz' f1
  go_enter Tryd.func18, Tryd.ntmps18
  obtain ⟨y0, y1, y2, y3, y4, y5, y6, y7⟩ := hC0.out W1 (Fr.refl _ _)
  have bl : b < W1.heap.size := World.block_lt_of_cell? _ _ y0
  go_upto_region 14 with fail
  try rw [hT]
  try rw [hW1]
  obtain ⟨T2, hT2⟩ : ∃ T2, W1.heap.size = T2 := ⟨_, rfl⟩
  obtain ⟨W2, hW2⟩ : ∃ W, W1.alloc (.cells #[.int .i64 (k0 : Int), .string ⟨m0.toArray⟩, .bool g0, .int .u64 (i0 : Int), .slice p0 np0 q0, .slice p1 nk0 q1, .slice p2 nb0 q2, .slice p3 na0 q3] 40) = W := ⟨_, rfl⟩
  try rw [hT2]
  try rw [hW2]
  have f2 : Fr Nil W1 W2 := by rw [← hW2]; (repeat (first | (with_reducible exact Fr.refl _ _) | (with_reducible assumption) | (with_reducible exact Fr.of_nil (by assumption)) | (with_reducible refine Fr.drew ?_) | (with_reducible refine Fr.drewN ?_ _) | (with_reducible refine Fr.alloc ?_ _) | (with_reducible refine Fr.set ?_ _ _ (by first | (intros; omega) | (simp; done) | (simp; omega))) | (with_reducible refine Fr.via ?_ (by assumption)) | (with_reducible refine Fr.comp ?_ (by assumption))))
  have b2 : Blk W2 T2 #[.int .i64 (k0 : Int), .string ⟨m0.toArray⟩, .bool g0, .int .u64 (i0 : Int), .slice p0 np0 q0, .slice p1 nk0 q1, .slice p2 nb0 q2, .slice p3 na0 q3] 40 := by rw [← hW2, ← hT2]; exact Blk.new _ _ _
  have H2 := Lib.hid (And.intro f2 b2)
  clear hT hW1 hT2 hW2 y0 y1 y2 y3 y4 y5 y6 y7 bl z0 z1 z2 z3 z4 z5 z6 z7 zl f2
  have v0 := b2.cell 0
  have v1 := b2.cell 1
  have v2 := b2.cell 2
  have v3 := b2.cell 3
  have v4 := b2.cell 4
  have v5 := b2.cell 5
  have v6 := b2.cell 6
  have v7 := b2.cell 7
  simp at v0 v1 v2 v3 v4 v5 v6 v7
  have vl := b2.lt
  clear b2
  go_wp2_with fail
  refine (HW.out.1 _ H2.out.1).mono ?_
  rintro r w3 ⟨rfl, f3⟩
  have b3 := f3.blk H2.out.2 (fun q => q)
  have hf3 : Fr Nil W1 w3 := H2.out.1.comp f3
  clear v0 v1 v2 v3 v4 v5 v6 v7 vl f3
  have v0 := b3.cell 0
  have v1 := b3.cell 1
  have v2 := b3.cell 2
  have v3 := b3.cell 3
  have v4 := b3.cell 4
  have v5 := b3.cell 5
  have v6 := b3.cell 6
  have v7 := b3.cell 7
  simp at v0 v1 v2 v3 v4 v5 v6 v7
  have vl := b3.lt
  clear b3
  obtain ⟨z0, z1, z2, z3, z4, z5, z6, z7⟩ := HK2.out w3 hf3
  have zl := World.block_lt_of_cell? _ _ z0
  by_cases k2 : k0 = 2
  · subst k2
    by_cases n0 : nk0 = 0
    · subst n0
      have hR3 : R = parF t ++ u := by rw [HW.out.2.2.1]; rfl
      have htl := HW.out.2.2.2.1
      have hul := HW.out.2.2.2.2
      obtain ⟨S1, hS1⟩ : ∃ x, [40] ++ t = x := ⟨_, rfl⟩
      have l1 : S1.length = t.length + 1 := by rw [← hS1]; simp
      obtain ⟨S2, hS2⟩ : ∃ x, S1 ++ [41] = x := ⟨_, rfl⟩
      have l2 : S2.length = S1.length + 1 := by rw [← hS2]; simp
      have e2 : parF t = S2 := by rw [← hS2, ← hS1]; rfl
      have sa1 : ∀ w, (Op.stringOp .add ⟨#[40]⟩ ⟨t.toArray⟩).run Tryd.prog w = .ok (.string ⟨S1.toArray⟩) w := fun w => by rw [← hS1]; exact sadd [40] t (by simp; omega) w
      have sa2 : ∀ w, (Op.stringOp .add ⟨S1.toArray⟩ ⟨#[41]⟩).run Tryd.prog w = .ok (.string ⟨S2.toArray⟩) w := fun w => by rw [← hS2]; exact sadd S1 [41] (by simp; omega) w
      have sa3 : ∀ w, (Op.stringOp .add ⟨S2.toArray⟩ ⟨u.toArray⟩).run Tryd.prog w = .ok (.string ⟨R.toArray⟩) w := fun w => by rw [hR3, e2]; exact sadd S2 u (by omega) w
      clear hR3 hS1 hS2 l1 l2 e2 htl hul
      by_cases hc : c1 = 1
      · subst hc
        obtain rfl : m = 0 := by omega
        go_wp2_with fail
        refine (HW.out.2.1 _ (fun hA => absurd hA (Nat.lt_irrefl 0)) _ hf3).mono ?_
        rintro r w4 ⟨rfl, f4⟩
        have HF : Hid (Fr Nil w w4) := Lib.hid (HF1.out.comp (hf3.comp f4))
        clear f4
        go_wp2
        go_ret
        exact ⟨rfl, HF.out⟩
      · have x1 : (1 : Int) ≤ (m : Int) + 1 := by omega
        have x2 : (m : Int) + 1 ≤ (c1 : Int) := by omega
        have x3 : (1 : Int) ≤ (c1 : Int) := by omega
        go_wp2_with fail
        refine (HW.out.2.1 _ (fun hA => rfl) _ hf3).mono ?_
        rintro r w4 ⟨rfl, f4⟩
        have HF : Hid (Fr Nil w w4) := Lib.hid (HF1.out.comp (hf3.comp f4))
        clear f4
        go_wp2
        go_ret
        exact ⟨rfl, HF.out⟩
    · have d0 : ((nk0 : Int) == 0) = false := by rw [beq_eq_false_iff_ne]; omega
      have g0 : ¬ (nk0 : Int) = 0 := by omega
      have hR3 : R = t ++ u := by rw [HW.out.2.2.1]; rw [show decide (nk0 = 0) = false from decide_eq_false n0]; rfl
      have sa3 : ∀ w, (Op.stringOp .add ⟨t.toArray⟩ ⟨u.toArray⟩).run Tryd.prog w = .ok (.string ⟨R.toArray⟩) w := fun w => by rw [hR3]; exact sadd t u (by have := HW.out.2.2.2.1; have := HW.out.2.2.2.2; omega) w
      clear hR3
      by_cases hc : c1 = 1
      · subst hc
        obtain rfl : m = 0 := by omega
        go_wp2_with fail
        refine (HW.out.2.1 _ (fun hA => absurd hA (Nat.lt_irrefl 0)) _ hf3).mono ?_
        rintro r w4 ⟨rfl, f4⟩
        have HF : Hid (Fr Nil w w4) := Lib.hid (HF1.out.comp (hf3.comp f4))
        clear f4
        go_wp2
        go_ret
        exact ⟨rfl, HF.out⟩
      · have x1 : (1 : Int) ≤ (m : Int) + 1 := by omega
        have x2 : (m : Int) + 1 ≤ (c1 : Int) := by omega
        have x3 : (1 : Int) ≤ (c1 : Int) := by omega
        go_wp2_with fail
        refine (HW.out.2.1 _ (fun hA => rfl) _ hf3).mono ?_
        rintro r w4 ⟨rfl, f4⟩
        have HF : Hid (Fr Nil w w4) := Lib.hid (HF1.out.comp (hf3.comp f4))
        clear f4
        go_wp2
        go_ret
        exact ⟨rfl, HF.out⟩
  by_cases k5 : k0 = 5
  · subst k5
    by_cases n0 : nk0 = 0
    · subst n0
      have hR3 : R = parF t ++ u := by rw [HW.out.2.2.1]; rfl
      have htl := HW.out.2.2.2.1
      have hul := HW.out.2.2.2.2
      obtain ⟨S1, hS1⟩ : ∃ x, [40] ++ t = x := ⟨_, rfl⟩
      have l1 : S1.length = t.length + 1 := by rw [← hS1]; simp
      obtain ⟨S2, hS2⟩ : ∃ x, S1 ++ [41] = x := ⟨_, rfl⟩
      have l2 : S2.length = S1.length + 1 := by rw [← hS2]; simp
      have e2 : parF t = S2 := by rw [← hS2, ← hS1]; rfl
      have sa1 : ∀ w, (Op.stringOp .add ⟨#[40]⟩ ⟨t.toArray⟩).run Tryd.prog w = .ok (.string ⟨S1.toArray⟩) w := fun w => by rw [← hS1]; exact sadd [40] t (by simp; omega) w
      have sa2 : ∀ w, (Op.stringOp .add ⟨S1.toArray⟩ ⟨#[41]⟩).run Tryd.prog w = .ok (.string ⟨S2.toArray⟩) w := fun w => by rw [← hS2]; exact sadd S1 [41] (by simp; omega) w
      have sa3 : ∀ w, (Op.stringOp .add ⟨S2.toArray⟩ ⟨u.toArray⟩).run Tryd.prog w = .ok (.string ⟨R.toArray⟩) w := fun w => by rw [hR3, e2]; exact sadd S2 u (by omega) w
      clear hR3 hS1 hS2 l1 l2 e2 htl hul
      by_cases hc : c1 = 1
      · subst hc
        obtain rfl : m = 0 := by omega
        go_wp2_with fail
        refine (HW.out.2.1 _ (fun hA => absurd hA (Nat.lt_irrefl 0)) _ hf3).mono ?_
        rintro r w4 ⟨rfl, f4⟩
        have HF : Hid (Fr Nil w w4) := Lib.hid (HF1.out.comp (hf3.comp f4))
        clear f4
        go_wp2
        go_ret
        exact ⟨rfl, HF.out⟩
      · have x1 : (1 : Int) ≤ (m : Int) + 1 := by omega
        have x2 : (m : Int) + 1 ≤ (c1 : Int) := by omega
        have x3 : (1 : Int) ≤ (c1 : Int) := by omega
        go_wp2_with fail
        refine (HW.out.2.1 _ (fun hA => rfl) _ hf3).mono ?_
        rintro r w4 ⟨rfl, f4⟩
        have HF : Hid (Fr Nil w w4) := Lib.hid (HF1.out.comp (hf3.comp f4))
        clear f4
        go_wp2
        go_ret
        exact ⟨rfl, HF.out⟩
    · have d0 : ((nk0 : Int) == 0) = false := by rw [beq_eq_false_iff_ne]; omega
      have g0 : ¬ (nk0 : Int) = 0 := by omega
      have hR3 : R = t ++ u := by rw [HW.out.2.2.1]; rw [show decide (nk0 = 0) = false from decide_eq_false n0]; rfl
      have sa3 : ∀ w, (Op.stringOp .add ⟨t.toArray⟩ ⟨u.toArray⟩).run Tryd.prog w = .ok (.string ⟨R.toArray⟩) w := fun w => by rw [hR3]; exact sadd t u (by have := HW.out.2.2.2.1; have := HW.out.2.2.2.2; omega) w
      clear hR3
      by_cases hc : c1 = 1
      · subst hc
        obtain rfl : m = 0 := by omega
        go_wp2_with fail
        refine (HW.out.2.1 _ (fun hA => absurd hA (Nat.lt_irrefl 0)) _ hf3).mono ?_
        rintro r w4 ⟨rfl, f4⟩
        have HF : Hid (Fr Nil w w4) := Lib.hid (HF1.out.comp (hf3.comp f4))
        clear f4
        go_wp2
        go_ret
        exact ⟨rfl, HF.out⟩
      · have x1 : (1 : Int) ≤ (m : Int) + 1 := by omega
        have x2 : (m : Int) + 1 ≤ (c1 : Int) := by omega
        have x3 : (1 : Int) ≤ (c1 : Int) := by omega
        go_wp2_with fail
        refine (HW.out.2.1 _ (fun hA => rfl) _ hf3).mono ?_
        rintro r w4 ⟨rfl, f4⟩
        have HF : Hid (Fr Nil w w4) := Lib.hid (HF1.out.comp (hf3.comp f4))
        clear f4
        go_wp2
        go_ret
        exact ⟨rfl, HF.out⟩
  have d2 : ((k0 : Int) == 2) = false := by rw [beq_eq_false_iff_ne]; omega
  have d5 : ((k0 : Int) == 5) = false := by rw [beq_eq_false_iff_ne]; omega
  have g2 : ¬ (k0 : Int) = 2 := by omega
  have g5 : ¬ (k0 : Int) = 5 := by omega
  have hR3 : R = t ++ u := by rw [HW.out.2.2.1]; rw [show decide (k0 = 2) = false from decide_eq_false k2, show decide (k0 = 5) = false from decide_eq_false k5, Bool.or_false, Bool.and_false]; rfl
  have sa3 : ∀ w, (Op.stringOp .add ⟨t.toArray⟩ ⟨u.toArray⟩).run Tryd.prog w = .ok (.string ⟨R.toArray⟩) w := fun w => by rw [hR3]; exact sadd t u (by have := HW.out.2.2.2.1; have := HW.out.2.2.2.2; omega) w
  clear hR3
  by_cases hc : c1 = 1
  · subst hc
    obtain rfl : m = 0 := by omega
    go_wp2_with fail
    refine (HW.out.2.1 _ (fun hA => absurd hA (Nat.lt_irrefl 0)) _ hf3).mono ?_
    rintro r w4 ⟨rfl, f4⟩
    have HF : Hid (Fr Nil w w4) := Lib.hid (HF1.out.comp (hf3.comp f4))
    clear f4
    go_wp2
    go_ret
    exact ⟨rfl, HF.out⟩
  · have x1 : (1 : Int) ≤ (m : Int) + 1 := by omega
    have x2 : (m : Int) + 1 ≤ (c1 : Int) := by omega
    have x3 : (1 : Int) ≤ (c1 : Int) := by omega
    go_wp2_with fail
    refine (HW.out.2.1 _ (fun hA => rfl) _ hf3).mono ?_
    rintro r w4 ⟨rfl, f4⟩
    have HF : Hid (Fr Nil w w4) := Lib.hid (HF1.out.comp (hf3.comp f4))
    clear f4
    go_wp2
    go_ret
    exact ⟨rfl, HF.out⟩
end Go.Proofs.YtpjlibbdngnnnaaDoor
