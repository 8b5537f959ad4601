/-
  The program shows binds, alternatives, lambdas. Conditions: the tables that Go's library reads.
-/
import Derived.Test.YtlnmicddobgppaaGreatDoorNnZ
import Derived.Test.YtlnmicddobgppaaGreatDoorNnA
namespace Go.Proofs.YtlnmicddobgppaaGreatDoor
set_option maxRecDepth 100000
set_option maxHeartbeats 4000000
set_option linter.unusedSimpArgs false
set_option linter.unusedVariables false
open Go.RowKit
theorem src_two {w : World} {b : Nat} {u v : Value} {t : TypeId} (h : Blk w b #[u, v] t) : Src w (some ⟨b, 0, none⟩) 2 1 [u, v] :=
 .inr ⟨_, rfl, rfl, fun j x hj => by rw [add_head, h.cell]; simpa using hj⟩
theorem pbind_sh {w : World} {c : List Value} {n : List UInt8} {ps : List (List UInt8)} {e : TE} (h : BAt (fun _ => False) w c (.mk n ps e)) (hE : PsOk e) (hs : svE e) (hz : zE e + 32 + n.length + lenS ps ≤ 50000000) (hT : Tabs w) :
 Calls Tryz.prog 64 #[.agg c.toArray] w fun r w' => r = .returned (.string ⟨(swB1 prF (.mk n ps e)).toArray⟩) ∧ Fr Nil w w' := by
 obtain ⟨i0, hi, hz0, hz1, hz2⟩ := info_parts infoS
 obtain ⟨pn, ec, rfl, hr, he⟩ := h
 obtain ⟨pa, pc, rfl⟩ := RowC.shape hr
 obtain ⟨k9, nm9, fl9, bi9, a0, n0, c0, a1, n1, c1, a2, n2, c2, a3, n3, c3, rfl⟩ := he.formE
 obtain ⟨np, hnp⟩ : ∃ np, ps.length = np := ⟨_, rfl⟩
 have hr' : RowS (fun _ => False) w (.slice pa np pc) ps := by rw [← hnp]; exact hr
 have ht := swE_le (e := e) (by omega)
 have hex : ∀ w', Fr Nil w w' → Calls Tryz.prog 18 #[.agg #[.int .i64 k9, .string nm9, .bool fl9, .int .u64 bi9, .slice a0 n0 c0, .slice a1 n1 c1, .slice a2 n2 c2, .slice a3 n3 c3]] w' fun r w2 => r = .returned (.string ⟨(swE prF e).toArray⟩) ∧ Fr Nil w' w2 := fun w' f => hE w' _ (he.frN f) hs (by omega) (hT.fr f)
 show Calls _ _ _ _ fun r w' => r = .returned (.string ⟨(joinS (n :: (ps ++ [[61], swE prF e]))).toArray⟩) ∧ Fr Nil w w'
 obtain ⟨t, htt⟩ : ∃ t, swE prF e = t := ⟨_, rfl⟩
 rw [htt] at ht hex ⊢
 have hp9 := len_lenS ps
 have hnp9 : np ≤ 50000000 := by omega
 have hjn : ∀ (w' : World) (a : Option Addr) (c : Nat), RowS (fun _ => False) w' (.slice a (1 + np + 2) c) (n :: (ps ++ [[61], t])) → Calls Tryz.prog 66 #[.slice a (1 + np + 2) c] w' fun r w2 => r = .returned (.string ⟨(joinS (n :: (ps ++ [[61], t]))).toArray⟩) ∧ Fr Nil w' w2 := fun w' a c hr =>
  pjoin_any hr (by rw [List.length_cons, List.length_append, hnp]; show np + 2 + 1 = _; omega) (by rw [lenS_cons, lenS_app, lenS_cons, lenS_cons, lenS_nil]; simp; omega)
 have hsC : strC (n :: (ps ++ [[61], t])) = ([.string ⟨n.toArray⟩] ++ strC ps) ++ [.string ⟨#[61]⟩, .string ⟨t.toArray⟩] := by simp [strC]
 have hlC : (n :: (ps ++ [[61], t])).length = 1 + np + 2 := by rw [List.length_cons, List.length_append, hnp]; show np + 2 + 1 = _; omega
 show Calls _ _ #[.agg #[.string ⟨n.toArray⟩, .slice pa ps.length pc, .int .i64 k9, .string nm9, .bool fl9, .int .u64 bi9, .slice a0 n0 c0, .slice a1 n1 c1, .slice a2 n2 c2, .slice a3 n3 c3]] _ _
 rw [hnp]
 obtain ⟨W1, hW1⟩ : ∃ W1, w.alloc (.cells #[.string ⟨n.toArray⟩, .slice pa np pc, .int .i64 k9, .string nm9, .bool fl9, .int .u64 bi9, .slice a0 n0 c0, .slice a1 n1 c1, .slice a2 n2 c2, .slice a3 n3 c3] 51) = W1 := ⟨_, rfl⟩
 obtain ⟨T, hTs⟩ : ∃ T, w.heap.size = T := ⟨_, rfl⟩
 have f1 : Fr Nil w W1 := by rw [← hW1]; exact frA
 have b1 : Blk W1 T #[.string ⟨n.toArray⟩, .slice pa np pc, .int .i64 k9, .string nm9, .bool fl9, .int .u64 bi9, .slice a0 n0 c0, .slice a1 n1 c1, .slice a2 n2 c2, .slice a3 n3 c3] 51 := by rw [← hW1, ← hTs]; exact Blk.new _ _ _
 have hsz1 : T < W1.heap.size := b1.lt
 have HK2 : Hid (∀ w', Fr Nil W1 w' → w'.cell? ⟨T, 0, none⟩ = some (.string ⟨n.toArray⟩) ∧ w'.cell? ⟨T, 1, none⟩ = some (.slice pa np pc) ∧ w'.cell? ⟨T, 2, none⟩ = some (.int .i64 k9) ∧ w'.cell? ⟨T, 3, none⟩ = some (.string nm9) ∧ w'.cell? ⟨T, 4, none⟩ = some (.bool fl9) ∧ w'.cell? ⟨T, 5, none⟩ = some (.int .u64 bi9) ∧ w'.cell? ⟨T, 6, none⟩ = some (.slice a0 n0 c0) ∧ w'.cell? ⟨T, 7, none⟩ = some (.slice a1 n1 c1) ∧ w'.cell? ⟨T, 8, none⟩ = some (.slice a2 n2 c2) ∧ w'.cell? ⟨T, 9, none⟩ = some (.slice a3 n3 c3)) := Lib.hid (fun w' f => by
  have b := f.blk b1 (fun q => q)
  have z0 := b.cell 0
  have z1 := b.cell 1
  have z2 := b.cell 2
  have z3 := b.cell 3
  have z4 := b.cell 4
  have z5 := b.cell 5
  have z6 := b.cell 6
  have z7 := b.cell 7
  have z8 := b.cell 8
  have z9 := b.cell 9
  simp at z0 z1 z2 z3 z4 z5 z6 z7 z8 z9
  exact ⟨z0, z1, z2, z3, z4, z5, z6, z7, z8, z9⟩)
 obtain ⟨z0, z1, z2, z3, z4, z5, z6, z7, z8, z9⟩ := HK2.out W1 (Fr.refl _ _)
 have zl := b1.lt
 have HF1 := Lib.hid f1
 have HX := Lib.hid (And.intro (fun w' (f : Fr Nil W1 w') => hex w' (HF1.out.comp f)) (And.intro (fun w' (f : Fr Nil W1 w') => rows_src (hr'.frN (HF1.out.comp f)) hnp) (And.intro hsC (And.intro hlC hjn))))
 clear hex hsC hlC hjn hr hr' he hE hs hz hT hnp htt hp9 b1 f1
 go_enter Tryz.func64, Tryz.ntmps64
 go_upto_region 1 with fail
 try rw [hTs]
 try rw [hW1]
 clear hW1 hTs
 go_region_held3 (fun w' => w'.cell? ⟨T, 0, none⟩ = some (.string ⟨n.toArray⟩) ∧ w'.cell? ⟨T, 1, none⟩ = some (.slice pa np pc) ∧ w'.cell? ⟨T, 2, none⟩ = some (.int .i64 k9) ∧ w'.cell? ⟨T, 3, none⟩ = some (.string nm9) ∧ w'.cell? ⟨T, 4, none⟩ = some (.bool fl9) ∧ w'.cell? ⟨T, 5, none⟩ = some (.int .u64 bi9) ∧ w'.cell? ⟨T, 6, none⟩ = some (.slice a0 n0 c0) ∧ w'.cell? ⟨T, 7, none⟩ = some (.slice a1 n1 c1) ∧ w'.cell? ⟨T, 8, none⟩ = some (.slice a2 n2 c2) ∧ w'.cell? ⟨T, 9, none⟩ = some (.slice a3 n3 c3)) (with_reducible refine HK2.out _ ?_; (first | assumption | exact HG8.out | exact H7.out.2 | exact HC.out.1 | exact H6.out.2 | (refine HG8.out.comp ?_; (exact frA); done) | (refine H7.out.2.comp ?_; (exact frA); done) | (refine HC.out.1.comp ?_; (exact frA); done) | (refine H6.out.2.comp ?_; (exact frA); done) | exact frA)) (first
  | (go_at_call 18; have h6 := H6.out.2; refine (HX.out.1 _ (by first | exact H6.out.2 | exact H6.out.2.comp (by exact frA))).mono ?_; rintro r w2 ⟨rfl, f2⟩; have g2 : Fr Nil w6 w2 := Fr.comp (S := Nil) (by first | assumption | exact frA) f2; have HC := Lib.hid (And.intro (H6.out.2.comp g2) (owns_fr H6.out.1 g2)); have s2 := HC.out.1.size; clear f2 g2 h6)
  | (go_at_call 18; refine pre_call (b := W1.heap.size) (cs := #[.string ⟨n.toArray⟩]) (t := 9) ?_ ?_; (focus ((unfold Blk; simp (disch := first | omega | (simp; done) | (simp; omega)) only [hp_drew, hp_drewN, hp_alloc, hp_other, hp_same, hp_new, upd_cells, Option.map_some]); done)); intro p1; refine (HX.out.1 _ (by first | assumption | exact frA)).mono ?_; rintro r w2 ⟨rfl, f2⟩; have g2 : Fr Nil W1 w2 := Fr.comp (S := Nil) (by first | assumption | exact frA) f2; have HB := Lib.hid (f2.blk p1 (fun q => q)); have l2 := HB.out.lt; have HC := Lib.hid (And.intro g2 True.intro); have s2 := g2.size; clear f2 g2 p1)
  | (go_at_call 18; refine (HX.out.1 _ (by first | assumption | exact frA)).mono ?_; rintro r w2 ⟨rfl, f2⟩; have g2 : Fr Nil W1 w2 := Fr.comp (S := Nil) (by first | assumption | exact frA) f2; have HC := Lib.hid (And.intro g2 True.intro); have s2 := g2.size; clear f2 g2)
  | (refine is_app (.tmp 5) (.tmp 7) 45 rfl ?_; first
   | (refine pre_blk (b := W1.heap.size) (cs := #[.string ⟨n.toArray⟩]) (t := 9) ?_ ?_; (focus ((unfold Blk; simp (disch := first | omega | (simp; done) | (simp; omega)) only [hp_drew, hp_drewN, hp_alloc, hp_other, hp_same, hp_new, upd_cells, Option.map_some]); done)); intro p1; refine step_append_src rfl (.tmp 5) (.tmp 7) 45 rfl W1.heap.size 9 i0 (.string ⟨#[]⟩) 1 16 Tryz.underlying45 hi hz0 hz1 hz2 rfl (by decide) (.slice (some ⟨W1.heap.size, 0, none⟩) 1 1) 1 [.string ⟨n.toArray⟩] (by simp [Act.eval, Act.put]) (owns_one p1 (by omega)) (pa) (np) pc (strC ps) (by simp [Act.eval, Act.put]) (HX.out.2.1 _ (by first | exact HC.out.1 | exact HC.out.1.comp (by exact frA) | exact frA)) (strC_one ps) (by unfold maxLen; omega) (by omega) (by first | omega | (simp; done) | (simp; omega)) ?_; intro u1 w6 hown g6 hk6; have f6 : Fr Nil W1 w6 := Fr.grown (S := Nil) (by first | exact HC.out.1 | exact HC.out.1.comp (by exact frA) | exact frA) g6 (fun k q hk => by simp [Value.ownBlock] at q; omega); have H6 := Lib.hid (And.intro hown f6); have s6 := f6.size; clear hown g6 hk6 f6 p1)
   | (refine pre_blk (b := W1.heap.size) (cs := #[.string ⟨n.toArray⟩]) (t := 9) ?_ ?_; (focus (refine Fr.blk (S := Nil) ?_ (HB.out) (fun q => q); (exact frA); done)); intro p1; refine pre_blk (b := w2.heap.size) (cs := #[.string ⟨#[61]⟩, .string ⟨t.toArray⟩]) (t := 9) ?_ ?_; (focus ((unfold Blk; simp (disch := first | omega | (simp; done) | (simp; omega)) only [hp_drew, hp_drewN, hp_alloc, hp_other, hp_same, hp_new, upd_cells, Option.map_some]); done)); intro p2; refine step_append_src rfl (.tmp 5) (.tmp 7) 45 rfl W1.heap.size 9 i0 (.string ⟨#[]⟩) 1 16 Tryz.underlying45 hi hz0 hz1 hz2 rfl (by decide) (.slice (some ⟨W1.heap.size, 0, none⟩) 1 1) 1 [.string ⟨n.toArray⟩] (by simp [Act.eval, Act.put]) (owns_one p1 (by omega)) (pa) (np) pc (strC ps) (by simp [Act.eval, Act.put]) (HX.out.2.1 _ (by first | exact HC.out.1 | exact HC.out.1.comp (by exact frA) | exact frA)) (strC_one ps) (by unfold maxLen; omega) (by omega) (by first | omega | (simp; done) | (simp; omega)) ?_; intro u1 w6 hown g6 hk6; have f6 : Fr Nil W1 w6 := Fr.grown (S := Nil) (by first | exact HC.out.1 | exact HC.out.1.comp (by exact frA) | exact frA) g6 (fun k q hk => by simp [Value.ownBlock] at q; omega); have bd6 : Blk w6 (w2.heap.size) #[.string ⟨#[61]⟩, .string ⟨t.toArray⟩] 9 := (Fr.grown (S := fun k => k = W1.heap.size) (Fr.refl _ _) g6 (fun k q hk => by have e : some (W1.heap.size) = some k := q; injection e with e; exact e.symm)).blk p2 (fun z => by have z' : w2.heap.size = W1.heap.size := z; omega); have HBD := Lib.hid bd6; have l6 := bd6.lt; clear bd6 p2; have H6 := Lib.hid (And.intro hown f6); have s6 := f6.size; clear hown g6 hk6 f6 p1)
   | (refine pre_blk (b := W1.heap.size) (cs := #[.string ⟨n.toArray⟩]) (t := 9) ?_ ?_; (focus (refine Fr.blk (S := Nil) ?_ (HB.out) (fun q => q); (exact frA); done)); intro p1; refine step_append_src rfl (.tmp 5) (.tmp 7) 45 rfl W1.heap.size 9 i0 (.string ⟨#[]⟩) 1 16 Tryz.underlying45 hi hz0 hz1 hz2 rfl (by decide) (.slice (some ⟨W1.heap.size, 0, none⟩) 1 1) 1 [.string ⟨n.toArray⟩] (by simp [Act.eval, Act.put]) (owns_one p1 (by omega)) (pa) (np) pc (strC ps) (by simp [Act.eval, Act.put]) (HX.out.2.1 _ (by first | exact HC.out.1 | exact HC.out.1.comp (by exact frA) | exact frA)) (strC_one ps) (by unfold maxLen; omega) (by omega) (by first | omega | (simp; done) | (simp; omega)) ?_; intro u1 w6 hown g6 hk6; have f6 : Fr Nil W1 w6 := Fr.grown (S := Nil) (by first | exact HC.out.1 | exact HC.out.1.comp (by exact frA) | exact frA) g6 (fun k q hk => by simp [Value.ownBlock] at q; omega); have H6 := Lib.hid (And.intro hown f6); have s6 := f6.size; clear hown g6 hk6 f6 p1)
   | (refine pre_blk (b := w2.heap.size) (cs := #[.string ⟨n.toArray⟩]) (t := 9) ?_ ?_; (focus ((unfold Blk; simp (disch := first | omega | (simp; done) | (simp; omega)) only [hp_drew, hp_drewN, hp_alloc, hp_other, hp_same, hp_new, upd_cells, Option.map_some]); done)); intro p1; refine pre_blk (b := w2.heap.size + 1) (cs := #[.string ⟨#[61]⟩, .string ⟨t.toArray⟩]) (t := 9) ?_ ?_; (focus ((unfold Blk; simp (disch := first | omega | (simp; done) | (simp; omega)) only [hp_drew, hp_drewN, hp_alloc, hp_other, hp_same, hp_new, upd_cells, Option.map_some]); done)); intro p2; refine step_append_src rfl (.tmp 5) (.tmp 7) 45 rfl W1.heap.size 9 i0 (.string ⟨#[]⟩) 1 16 Tryz.underlying45 hi hz0 hz1 hz2 rfl (by decide) (.slice (some ⟨w2.heap.size, 0, none⟩) 1 1) 1 [.string ⟨n.toArray⟩] (by simp [Act.eval, Act.put]) (owns_one p1 (by omega)) (pa) (np) pc (strC ps) (by simp [Act.eval, Act.put]) (HX.out.2.1 _ (by first | exact HC.out.1 | exact HC.out.1.comp (by exact frA) | exact frA)) (strC_one ps) (by unfold maxLen; omega) (by omega) (by first | omega | (simp; done) | (simp; omega)) ?_; intro u1 w6 hown g6 hk6; have f6 : Fr Nil W1 w6 := Fr.grown (S := Nil) (by first | exact HC.out.1 | exact HC.out.1.comp (by exact frA) | exact frA) g6 (fun k q hk => by simp [Value.ownBlock] at q; omega); have bd6 : Blk w6 (w2.heap.size + 1) #[.string ⟨#[61]⟩, .string ⟨t.toArray⟩] 9 := (Fr.grown (S := fun k => k = w2.heap.size) (Fr.refl _ _) g6 (fun k q hk => by have e : some (w2.heap.size) = some k := q; injection e with e; exact e.symm)).blk p2 (fun z => by have z' : w2.heap.size + 1 = w2.heap.size := z; omega); have HBD := Lib.hid bd6; have l6 := bd6.lt; clear bd6 p2; have H6 := Lib.hid (And.intro hown f6); have s6 := f6.size; clear hown g6 hk6 f6 p1)
   | (refine pre_blk (b := w2.heap.size + 1) (cs := #[.string ⟨n.toArray⟩]) (t := 9) ?_ ?_; (focus ((unfold Blk; simp (disch := first | omega | (simp; done) | (simp; omega)) only [hp_drew, hp_drewN, hp_alloc, hp_other, hp_same, hp_new, upd_cells, Option.map_some]); done)); intro p1; refine pre_blk (b := w2.heap.size) (cs := #[.string ⟨#[61]⟩, .string ⟨t.toArray⟩]) (t := 9) ?_ ?_; (focus ((unfold Blk; simp (disch := first | omega | (simp; done) | (simp; omega)) only [hp_drew, hp_drewN, hp_alloc, hp_other, hp_same, hp_new, upd_cells, Option.map_some]); done)); intro p2; refine step_append_src rfl (.tmp 5) (.tmp 7) 45 rfl W1.heap.size 9 i0 (.string ⟨#[]⟩) 1 16 Tryz.underlying45 hi hz0 hz1 hz2 rfl (by decide) (.slice (some ⟨w2.heap.size + 1, 0, none⟩) 1 1) 1 [.string ⟨n.toArray⟩] (by simp [Act.eval, Act.put]) (owns_one p1 (by omega)) (pa) (np) pc (strC ps) (by simp [Act.eval, Act.put]) (HX.out.2.1 _ (by first | exact HC.out.1 | exact HC.out.1.comp (by exact frA) | exact frA)) (strC_one ps) (by unfold maxLen; omega) (by omega) (by first | omega | (simp; done) | (simp; omega)) ?_; intro u1 w6 hown g6 hk6; have f6 : Fr Nil W1 w6 := Fr.grown (S := Nil) (by first | exact HC.out.1 | exact HC.out.1.comp (by exact frA) | exact frA) g6 (fun k q hk => by simp [Value.ownBlock] at q; omega); have bd6 : Blk w6 (w2.heap.size) #[.string ⟨#[61]⟩, .string ⟨t.toArray⟩] 9 := (Fr.grown (S := fun k => k = w2.heap.size + 1) (Fr.refl _ _) g6 (fun k q hk => by have e : some (w2.heap.size + 1) = some k := q; injection e with e; exact e.symm)).blk p2 (fun z => by have z' : w2.heap.size = w2.heap.size + 1 := z; omega); have HBD := Lib.hid bd6; have l6 := bd6.lt; clear bd6 p2; have H6 := Lib.hid (And.intro hown f6); have s6 := f6.size; clear hown g6 hk6 f6 p1)
   | (refine pre_blk (b := w2.heap.size) (cs := #[.string ⟨n.toArray⟩]) (t := 9) ?_ ?_; (focus ((unfold Blk; simp (disch := first | omega | (simp; done) | (simp; omega)) only [hp_drew, hp_drewN, hp_alloc, hp_other, hp_same, hp_new, upd_cells, Option.map_some]); done)); intro p1; refine step_append_src rfl (.tmp 5) (.tmp 7) 45 rfl W1.heap.size 9 i0 (.string ⟨#[]⟩) 1 16 Tryz.underlying45 hi hz0 hz1 hz2 rfl (by decide) (.slice (some ⟨w2.heap.size, 0, none⟩) 1 1) 1 [.string ⟨n.toArray⟩] (by simp [Act.eval, Act.put]) (owns_one p1 (by omega)) (pa) (np) pc (strC ps) (by simp [Act.eval, Act.put]) (HX.out.2.1 _ (by first | exact HC.out.1 | exact HC.out.1.comp (by exact frA) | exact frA)) (strC_one ps) (by unfold maxLen; omega) (by omega) (by first | omega | (simp; done) | (simp; omega)) ?_; intro u1 w6 hown g6 hk6; have f6 : Fr Nil W1 w6 := Fr.grown (S := Nil) (by first | exact HC.out.1 | exact HC.out.1.comp (by exact frA) | exact frA) g6 (fun k q hk => by simp [Value.ownBlock] at q; omega); have H6 := Lib.hid (And.intro hown f6); have s6 := f6.size; clear hown g6 hk6 f6 p1))
  | (refine is_app (.tmp 8) (.tmp 12) 45 rfl ?_; first
   | (refine pre_blk (b := w2.heap.size) (cs := #[.string ⟨#[61]⟩, .string ⟨t.toArray⟩]) (t := 9) ?_ ?_; (focus ((unfold Blk; simp (disch := first | omega | (simp; done) | (simp; omega)) only [hp_drew, hp_drewN, hp_alloc, hp_other, hp_same, hp_new, upd_cells, Option.map_some]); done)); intro p2; refine step_append_src rfl (.tmp 8) (.tmp 12) 45 rfl W1.heap.size 9 i0 (.string ⟨#[]⟩) 1 16 Tryz.underlying45 hi hz0 hz1 hz2 rfl (by decide) u1 (1 + np) ([.string ⟨n.toArray⟩] ++ strC ps) (by simp [Act.eval, Act.put]) (owns_fr (HC.out.2) (by exact frA)) (some ⟨w2.heap.size, 0, none⟩) (2) 2 [.string ⟨#[61]⟩, .string ⟨t.toArray⟩] (by simp [Act.eval, Act.put]) (src_two p2) (by simp [Value.oneCell']) (by unfold maxLen; omega) (by omega) (by first | omega | (simp; done) | (simp; omega)) ?_; intro u2 w7 hown g7 hk7; have f7 : Fr Nil W1 w7 := Fr.grown (S := Nil) (by first | exact HC.out.1 | exact H6.out.2 | (refine HC.out.1.comp ?_; (exact frA); done) | (refine H6.out.2.comp ?_; (exact frA); done)) g7 (fun k q hk => by have := ((HC.out.2).lt k q).1; omega); obtain ⟨ya, yc, rfl⟩ := owns_shape hown; have H7 := Lib.hid (And.intro (owns_rowS (by rw [HX.out.2.2.1]; exact hown) HX.out.2.2.2.1) f7); clear hown g7 hk7 f7 p2)
   | (refine pre_blk (b := w6.heap.size) (cs := #[.string ⟨#[61]⟩, .string ⟨t.toArray⟩]) (t := 9) ?_ ?_; (focus ((unfold Blk; simp (disch := first | omega | (simp; done) | (simp; omega)) only [hp_drew, hp_drewN, hp_alloc, hp_other, hp_same, hp_new, upd_cells, Option.map_some]); done)); intro p2; refine step_append_src rfl (.tmp 8) (.tmp 12) 45 rfl W1.heap.size 9 i0 (.string ⟨#[]⟩) 1 16 Tryz.underlying45 hi hz0 hz1 hz2 rfl (by decide) u1 (1 + np) ([.string ⟨n.toArray⟩] ++ strC ps) (by simp [Act.eval, Act.put]) (owns_fr (H6.out.1) (by exact frA)) (some ⟨w6.heap.size, 0, none⟩) (2) 2 [.string ⟨#[61]⟩, .string ⟨t.toArray⟩] (by simp [Act.eval, Act.put]) (src_two p2) (by simp [Value.oneCell']) (by unfold maxLen; omega) (by omega) (by first | omega | (simp; done) | (simp; omega)) ?_; intro u2 w7 hown g7 hk7; have f7 : Fr Nil W1 w7 := Fr.grown (S := Nil) (by first | exact HC.out.1 | exact H6.out.2 | (refine HC.out.1.comp ?_; (exact frA); done) | (refine H6.out.2.comp ?_; (exact frA); done)) g7 (fun k q hk => by have := ((H6.out.1).lt k q).1; omega); obtain ⟨ya, yc, rfl⟩ := owns_shape hown; have H7 := Lib.hid (And.intro (owns_rowS (by rw [HX.out.2.2.1]; exact hown) HX.out.2.2.2.1) f7); clear hown g7 hk7 f7 p2)
   | (refine pre_blk (b := w2.heap.size) (cs := #[.string ⟨#[61]⟩, .string ⟨t.toArray⟩]) (t := 9) ?_ ?_; (focus (refine Fr.blk (S := Nil) ?_ (HBD.out) (fun q => q); (exact frA); done)); intro p2; refine step_append_src rfl (.tmp 8) (.tmp 12) 45 rfl W1.heap.size 9 i0 (.string ⟨#[]⟩) 1 16 Tryz.underlying45 hi hz0 hz1 hz2 rfl (by decide) u1 (1 + np) ([.string ⟨n.toArray⟩] ++ strC ps) (by simp [Act.eval, Act.put]) (owns_fr (H6.out.1) (by exact frA)) (some ⟨w2.heap.size, 0, none⟩) (2) 2 [.string ⟨#[61]⟩, .string ⟨t.toArray⟩] (by simp [Act.eval, Act.put]) (src_two p2) (by simp [Value.oneCell']) (by unfold maxLen; omega) (by omega) (by first | omega | (simp; done) | (simp; omega)) ?_; intro u2 w7 hown g7 hk7; have f7 : Fr Nil W1 w7 := Fr.grown (S := Nil) (by first | exact HC.out.1 | exact H6.out.2 | (refine HC.out.1.comp ?_; (exact frA); done) | (refine H6.out.2.comp ?_; (exact frA); done)) g7 (fun k q hk => by have := ((H6.out.1).lt k q).1; omega); obtain ⟨ya, yc, rfl⟩ := owns_shape hown; have H7 := Lib.hid (And.intro (owns_rowS (by rw [HX.out.2.2.1]; exact hown) HX.out.2.2.2.1) f7); clear hown g7 hk7 f7 p2)
   | (refine pre_blk (b := w2.heap.size + 1) (cs := #[.string ⟨#[61]⟩, .string ⟨t.toArray⟩]) (t := 9) ?_ ?_; (focus (refine Fr.blk (S := Nil) ?_ (HBD.out) (fun q => q); (exact frA); done)); intro p2; refine step_append_src rfl (.tmp 8) (.tmp 12) 45 rfl W1.heap.size 9 i0 (.string ⟨#[]⟩) 1 16 Tryz.underlying45 hi hz0 hz1 hz2 rfl (by decide) u1 (1 + np) ([.string ⟨n.toArray⟩] ++ strC ps) (by simp [Act.eval, Act.put]) (owns_fr (H6.out.1) (by exact frA)) (some ⟨w2.heap.size + 1, 0, none⟩) (2) 2 [.string ⟨#[61]⟩, .string ⟨t.toArray⟩] (by simp [Act.eval, Act.put]) (src_two p2) (by simp [Value.oneCell']) (by unfold maxLen; omega) (by omega) (by first | omega | (simp; done) | (simp; omega)) ?_; intro u2 w7 hown g7 hk7; have f7 : Fr Nil W1 w7 := Fr.grown (S := Nil) (by first | exact HC.out.1 | exact H6.out.2 | (refine HC.out.1.comp ?_; (exact frA); done) | (refine H6.out.2.comp ?_; (exact frA); done)) g7 (fun k q hk => by have := ((H6.out.1).lt k q).1; omega); obtain ⟨ya, yc, rfl⟩ := owns_shape hown; have H7 := Lib.hid (And.intro (owns_rowS (by rw [HX.out.2.2.1]; exact hown) HX.out.2.2.2.1) f7); clear hown g7 hk7 f7 p2))
  | (go_at_call 66; refine (HX.out.2.2.2.2 _ _ _ (H7.out.1.frN (by first | assumption | exact frA))).mono ?_; rintro r w8 ⟨rfl, f8⟩; have g8 : Fr Nil W1 w8 := H7.out.2.comp (Fr.comp (S := Nil) (by exact frA) f8); have HG8 := Lib.hid g8; clear f8 g8))
 all_goals
  go_wp2
  go_ret
  exact ⟨rfl, HF1.out.comp (by first | assumption | exact HG8.out | (refine HG8.out.comp ?_; (exact frA); done))⟩
theorem sjoin_any {w : World} {a : Option Addr} {n c : Nat} {l : List (List UInt8)} (hr : RowS (fun _ => False) w (.slice a n c) l) (hn : l.length = n) (hl : lenS l ≤ 100000000000) :
 Calls Tryz.prog 98 #[.slice a n c, .string ⟨#[59, 32]⟩] w fun r w' => r = .returned (.string ⟨(joinR l).toArray⟩) ∧ Fr Nil w w' := by
 have hlen := joinR_le l
 rcases Nat.eq_zero_or_pos n with h0 | h0
 · subst h0
   obtain rfl : l = [] := List.eq_nil_of_length_eq_zero hn
   refine (Tryz.strings_Join_none _ _ _ _).mono ?_
   rintro r w2 ⟨rfl, rfl⟩
   exact ⟨rfl, Fr.refl _ _⟩
 · obtain ⟨b, off, rfl, _, hc0⟩ := RowS.cell hr 0 (by omega)
   have hcells : ∀ (j : Nat) x, (l.map (fun x => (⟨x.toArray⟩ : ByteArray)))[j]? = some x → w.cell? ⟨b, off + j, none⟩ = some (.string x) := fun j x hx => by
    obtain ⟨hj, e⟩ := List.getElem?_eq_some_iff.1 hx
    have hj' : j < l.length := by simpa using hj
    obtain ⟨b', off', e', _, hc⟩ := RowS.cell hr j hj'
    cases e'
    rw [← e, List.getElem_map]
    exact hc
   have hcap : n ≤ c := by
    obtain ⟨_, _, e9, h9, _, _⟩ := hr
    cases e9
    exact hn ▸ h9
   have hll : n ≤ 100000000000 := by
    have := len_lenS l
    omega
   have hmap : (l.map (fun x => (⟨x.toArray⟩ : ByteArray))).map (·.data.toList) = l := by
    rw [List.map_map]
    conv => rhs; rw [← List.map_id l]
    exact List.map_congr_left (fun x _ => by simp)
   have h := Tryz.strings_Join b off c (l.map (fun x => (⟨x.toArray⟩ : ByteArray))) ⟨#[59, 32]⟩ w hcells (World.block_lt_of_cell? _ _ hc0) (by rw [List.length_map]; omega) (by rw [List.length_map]; omega) (by rw [hmap]; show (joinR l).length ≤ _; omega)
   rw [hmap, List.length_map, hn] at h
   refine h.mono ?_
   rintro r w2 ⟨rfl, bw⟩
   exact ⟨rfl, Fr.ofBelow bw⟩
theorem plambda_any {w : World} {cs : List Value} {k : Nat} {nm : List UInt8} {fl : Bool} {bi : Nat} {ps : List (List UInt8)} {ks : List TE} {bs : List TB} {al : List TA} (h : EAt (fun _ => False) w cs (.mk k nm fl bi ps ks bs al)) (hE : ∀ e ∈ ks, PsOk e) (hs : svK ks) (hz : zK ks ≤ 50000000) (hT : Tabs w) (hlp : lenS ps ≤ 50000000) :
 Calls Tryz.prog 37 #[.agg cs.toArray] w fun r w' => r = .returned (.string ⟨([92] ++ joinS (ps ++ [[45, 62], swX prF ks])).toArray⟩) ∧ Fr Nil w w' := by
 obtain ⟨i0, hi, hz0, hz1, hz2⟩ := info_parts infoS
 have hA := fun w' (f : Fr Nil w w') => pkid_any (h.frN f) hE hs hz (hT.fr f)
 obtain ⟨a0, c0, a1, c1, a2, c2, a3, c3, kc, bc, ac, rfl, hp, hk, hk2, hb, hb2, ha, ha2⟩ := h.opened
 obtain ⟨nk, hnk⟩ : ∃ nk, ks.length = nk := ⟨_, rfl⟩
 obtain ⟨nb, hnb⟩ : ∃ nb, bs.length = nb := ⟨_, rfl⟩
 obtain ⟨na, hna⟩ : ∃ na, al.length = na := ⟨_, rfl⟩
 obtain ⟨np, hnp⟩ : ∃ np, ps.length = np := ⟨_, rfl⟩
 rw [hnk] at hk
 rw [hnb] at hb
 rw [hna] at ha
 have hp' : RowS (fun _ => False) w (.slice a0 np c0) ps := by rw [← hnp]; exact hp
 have hk9 := hk.lenX
 have hb9 := hb.lenX
 have ha9 := ha.lenX
 have htl := swX_len prF prF_len ks
 obtain ⟨t, ht⟩ : ∃ t, swX prF ks = t := ⟨_, rfl⟩
 rw [ht] at htl ⊢
 simp only [ht, hnk, hnb, hna, hnp] at hA
 have htl2 : t.length ≤ 50000000 := by omega
 have hp9 := len_lenS ps
 have hnp9 : np ≤ 50000000 := by omega
 have hlC : (ps ++ [[45, 62], t]).length = np + 2 := by rw [List.length_append, hnp]; rfl
 have hzj : lenS (ps ++ [[45, 62], t]) ≤ 100000100 := by rw [lenS_app, lenS_cons, lenS_cons, lenS_nil]; simp; omega
 have hjn : ∀ (w' : World) (a : Option Addr) (c : Nat), RowS (fun _ => False) w' (.slice a (np + 2) c) (ps ++ [[45, 62], t]) → Calls Tryz.prog 66 #[.slice a (np + 2) c] w' fun r w2 => r = .returned (.string ⟨(joinS (ps ++ [[45, 62], t])).toArray⟩) ∧ Fr Nil w' w2 := fun w' a c hr =>
  pjoin_any hr hlC (by omega)
 have hjl := lenS_join hzj
 have hsC : strC (ps ++ [[45, 62], t]) = strC ps ++ [.string ⟨#[45, 62]⟩, .string ⟨t.toArray⟩] := by simp [strC]
 obtain ⟨J, hJ⟩ : ∃ J, joinS (ps ++ [[45, 62], t]) = J := ⟨_, rfl⟩
 rw [hJ] at hjl ⊢
 simp only [hJ] at hjn
 obtain ⟨R, hR⟩ : ∃ R, [92] ++ J = R := ⟨_, rfl⟩
 rw [hR, hnk, hnb, hna, hnp]
 have sa1 : ∀ w, (Op.stringOp .add ⟨#[92]⟩ ⟨J.toArray⟩).run Tryz.prog w = .ok (.string ⟨R.toArray⟩) w := fun w => by rw [← hR]; exact sadd [92] J (by simp; omega) w
 obtain ⟨W1, hW1⟩ : ∃ W1, w.alloc (.cells #[.int .i64 (k : Int), .string ⟨nm.toArray⟩, .bool fl, .int .u64 (bi : Int), .slice a0 np c0, .slice a1 nk c1, .slice a2 nb c2, .slice a3 na c3] 84) = W1 := ⟨_, rfl⟩
 obtain ⟨T, hTs⟩ : ∃ T, w.heap.size = T := ⟨_, rfl⟩
 have f1 : Fr Nil w W1 := by rw [← hW1]; exact frA
 have b1 : Blk W1 T #[.int .i64 (k : Int), .string ⟨nm.toArray⟩, .bool fl, .int .u64 (bi : Int), .slice a0 np c0, .slice a1 nk c1, .slice a2 nb c2, .slice a3 na c3] 84 := by rw [← hW1, ← hTs]; exact Blk.new _ _ _
 have hsz1 : T < W1.heap.size := b1.lt
 have HK2 : Hid (∀ w', Fr Nil W1 w' → w'.cell? ⟨T, 0, none⟩ = some (.int .i64 (k : Int)) ∧ w'.cell? ⟨T, 1, none⟩ = some (.string ⟨nm.toArray⟩) ∧ w'.cell? ⟨T, 2, none⟩ = some (.bool fl) ∧ w'.cell? ⟨T, 3, none⟩ = some (.int .u64 (bi : Int)) ∧ w'.cell? ⟨T, 4, none⟩ = some (.slice a0 np c0) ∧ w'.cell? ⟨T, 5, none⟩ = some (.slice a1 nk c1) ∧ w'.cell? ⟨T, 6, none⟩ = some (.slice a2 nb c2) ∧ w'.cell? ⟨T, 7, none⟩ = some (.slice a3 na c3)) := Lib.hid (fun w' f => by
  have b := f.blk b1 (fun q => q)
  have z0 := b.cell 0
  have z1 := b.cell 1
  have z2 := b.cell 2
  have z3 := b.cell 3
  have z4 := b.cell 4
  have z5 := b.cell 5
  have z6 := b.cell 6
  have z7 := b.cell 7
  simp at z0 z1 z2 z3 z4 z5 z6 z7
  exact ⟨z0, z1, z2, z3, z4, z5, z6, z7⟩)
 obtain ⟨z0, z1, z2, z3, z4, z5, z6, z7⟩ := HK2.out W1 (Fr.refl _ _)
 have zl := b1.lt
 have HF1 := Lib.hid f1
 have HX := Lib.hid (And.intro (fun w' (f : Fr Nil W1 w') => hA w' (HF1.out.comp f)) (And.intro (fun w' (f : Fr Nil W1 w') => rows_src (hp'.frN (HF1.out.comp f)) hnp) (And.intro hsC (And.intro hlC hjn))))
 clear hA hjn hlC hzj hjl hsC ht htl hJ hR hp9
 clear h hp hp' hk hk2 hb hb2 ha ha2 hE hs hz hT hnk hnb hna hnp f1 b1
 go_enter Tryz.func37, Tryz.ntmps37
 go_upto_region 1 with fail
 try rw [hTs]
 try rw [hW1]
 clear hW1 hTs
 go_region_held3 (fun w' => w'.cell? ⟨T, 0, none⟩ = some (.int .i64 (k : Int)) ∧ w'.cell? ⟨T, 1, none⟩ = some (.string ⟨nm.toArray⟩) ∧ w'.cell? ⟨T, 2, none⟩ = some (.bool fl) ∧ w'.cell? ⟨T, 3, none⟩ = some (.int .u64 (bi : Int)) ∧ w'.cell? ⟨T, 4, none⟩ = some (.slice a0 np c0) ∧ w'.cell? ⟨T, 5, none⟩ = some (.slice a1 nk c1) ∧ w'.cell? ⟨T, 6, none⟩ = some (.slice a2 nb c2) ∧ w'.cell? ⟨T, 7, none⟩ = some (.slice a3 na c3)) (with_reducible refine HK2.out _ ?_; (first | assumption | exact HG8.out | exact H7.out.2 | exact HC.out.1 | exact H6.out.2 | (refine HG8.out.comp ?_; (exact frA); done) | (refine H7.out.2.comp ?_; (exact frA); done) | (refine HC.out.1.comp ?_; (exact frA); done) | (refine H6.out.2.comp ?_; (exact frA); done) | exact frA)) (first
  | (go_at_call 69; have h6 := H6.out.2; refine (HX.out.1 _ (by first | exact H6.out.2 | exact H6.out.2.comp (by exact frA))).mono ?_; rintro r w2 ⟨rfl, f2⟩; have g2 : Fr Nil w6 w2 := Fr.comp (S := Nil) (by first | assumption | exact frA) f2; have HC := Lib.hid (And.intro (H6.out.2.comp g2) (owns_fr H6.out.1 g2)); have s2 := HC.out.1.size; clear f2 g2 h6)
  | (go_at_call 69; refine pre_call (b := W1.heap.size) (cs := #[]) (t := 9) ?_ ?_; (focus ((unfold Blk; simp (disch := first | omega | (simp; done) | (simp; omega)) only [hp_drew, hp_drewN, hp_alloc, hp_other, hp_same, hp_new, upd_cells, Option.map_some]); done)); intro p1; refine (HX.out.1 _ (by first | assumption | exact frA)).mono ?_; rintro r w2 ⟨rfl, f2⟩; have g2 : Fr Nil W1 w2 := Fr.comp (S := Nil) (by first | assumption | exact frA) f2; have HB := Lib.hid (f2.blk p1 (fun q => q)); have l2 := HB.out.lt; have HC := Lib.hid (And.intro g2 True.intro); have s2 := g2.size; clear f2 g2 p1)
  | (go_at_call 69; refine (HX.out.1 _ (by first | assumption | exact frA)).mono ?_; rintro r w2 ⟨rfl, f2⟩; have g2 : Fr Nil W1 w2 := Fr.comp (S := Nil) (by first | assumption | exact frA) f2; have HC := Lib.hid (And.intro g2 True.intro); have s2 := g2.size; clear f2 g2)
  | (refine is_app (.tmp 3) (.tmp 6) 45 rfl ?_; first
   | (refine pre_blk (b := W1.heap.size) (cs := #[]) (t := 9) ?_ ?_; (focus ((unfold Blk; simp (disch := first | omega | (simp; done) | (simp; omega)) only [hp_drew, hp_drewN, hp_alloc, hp_other, hp_same, hp_new, upd_cells, Option.map_some]); done)); intro p1; refine step_append_src rfl (.tmp 3) (.tmp 6) 45 rfl W1.heap.size 9 i0 (.string ⟨#[]⟩) 1 16 Tryz.underlying45 hi hz0 hz1 hz2 rfl (by decide) (.slice (some ⟨W1.heap.size, 0, none⟩) 0 0) 0 [] (by simp [Act.eval, Act.put]) (owns_none p1 (by omega)) (a0) (np) c0 (strC ps) (by simp [Act.eval, Act.put]) (HX.out.2.1 _ (by first | exact HC.out.1 | exact HC.out.1.comp (by exact frA) | exact frA)) (strC_one ps) (by unfold maxLen; omega) (by omega) (by first | omega | (simp; done) | (simp; omega)) ?_; intro u1 w6 hown g6 hk6; have f6 : Fr Nil W1 w6 := Fr.grown (S := Nil) (by first | exact HC.out.1 | exact HC.out.1.comp (by exact frA) | exact frA) g6 (fun k q hk => by simp [Value.ownBlock] at q; omega); have H6 := Lib.hid (And.intro (show w6.ownsRow W1.heap.size 9 1 u1 np (strC ps) by rw [Nat.zero_add, List.nil_append] at hown; exact hown) f6); have s6 := f6.size; clear hown g6 hk6 f6 p1)
   | (refine pre_blk (b := W1.heap.size) (cs := #[]) (t := 9) ?_ ?_; (focus (refine Fr.blk (S := Nil) ?_ (HB.out) (fun q => q); (exact frA); done)); intro p1; refine pre_blk (b := w2.heap.size) (cs := #[.string ⟨#[45, 62]⟩, .string ⟨t.toArray⟩]) (t := 9) ?_ ?_; (focus ((unfold Blk; simp (disch := first | omega | (simp; done) | (simp; omega)) only [hp_drew, hp_drewN, hp_alloc, hp_other, hp_same, hp_new, upd_cells, Option.map_some]); done)); intro p2; refine step_append_src rfl (.tmp 3) (.tmp 6) 45 rfl W1.heap.size 9 i0 (.string ⟨#[]⟩) 1 16 Tryz.underlying45 hi hz0 hz1 hz2 rfl (by decide) (.slice (some ⟨W1.heap.size, 0, none⟩) 0 0) 0 [] (by simp [Act.eval, Act.put]) (owns_none p1 (by omega)) (a0) (np) c0 (strC ps) (by simp [Act.eval, Act.put]) (HX.out.2.1 _ (by first | exact HC.out.1 | exact HC.out.1.comp (by exact frA) | exact frA)) (strC_one ps) (by unfold maxLen; omega) (by omega) (by first | omega | (simp; done) | (simp; omega)) ?_; intro u1 w6 hown g6 hk6; have f6 : Fr Nil W1 w6 := Fr.grown (S := Nil) (by first | exact HC.out.1 | exact HC.out.1.comp (by exact frA) | exact frA) g6 (fun k q hk => by simp [Value.ownBlock] at q; omega); have bd6 : Blk w6 (w2.heap.size) #[.string ⟨#[45, 62]⟩, .string ⟨t.toArray⟩] 9 := (Fr.grown (S := fun k => k = W1.heap.size) (Fr.refl _ _) g6 (fun k q hk => by have e : some (W1.heap.size) = some k := q; injection e with e; exact e.symm)).blk p2 (fun z => by have z' : w2.heap.size = W1.heap.size := z; omega); have HBD := Lib.hid bd6; have l6 := bd6.lt; clear bd6 p2; have H6 := Lib.hid (And.intro (show w6.ownsRow W1.heap.size 9 1 u1 np (strC ps) by rw [Nat.zero_add, List.nil_append] at hown; exact hown) f6); have s6 := f6.size; clear hown g6 hk6 f6 p1)
   | (refine pre_blk (b := W1.heap.size) (cs := #[]) (t := 9) ?_ ?_; (focus (refine Fr.blk (S := Nil) ?_ (HB.out) (fun q => q); (exact frA); done)); intro p1; refine step_append_src rfl (.tmp 3) (.tmp 6) 45 rfl W1.heap.size 9 i0 (.string ⟨#[]⟩) 1 16 Tryz.underlying45 hi hz0 hz1 hz2 rfl (by decide) (.slice (some ⟨W1.heap.size, 0, none⟩) 0 0) 0 [] (by simp [Act.eval, Act.put]) (owns_none p1 (by omega)) (a0) (np) c0 (strC ps) (by simp [Act.eval, Act.put]) (HX.out.2.1 _ (by first | exact HC.out.1 | exact HC.out.1.comp (by exact frA) | exact frA)) (strC_one ps) (by unfold maxLen; omega) (by omega) (by first | omega | (simp; done) | (simp; omega)) ?_; intro u1 w6 hown g6 hk6; have f6 : Fr Nil W1 w6 := Fr.grown (S := Nil) (by first | exact HC.out.1 | exact HC.out.1.comp (by exact frA) | exact frA) g6 (fun k q hk => by simp [Value.ownBlock] at q; omega); have H6 := Lib.hid (And.intro (show w6.ownsRow W1.heap.size 9 1 u1 np (strC ps) by rw [Nat.zero_add, List.nil_append] at hown; exact hown) f6); have s6 := f6.size; clear hown g6 hk6 f6 p1)
   | (refine pre_blk (b := w2.heap.size) (cs := #[]) (t := 9) ?_ ?_; (focus ((unfold Blk; simp (disch := first | omega | (simp; done) | (simp; omega)) only [hp_drew, hp_drewN, hp_alloc, hp_other, hp_same, hp_new, upd_cells, Option.map_some]); done)); intro p1; refine pre_blk (b := w2.heap.size + 1) (cs := #[.string ⟨#[45, 62]⟩, .string ⟨t.toArray⟩]) (t := 9) ?_ ?_; (focus ((unfold Blk; simp (disch := first | omega | (simp; done) | (simp; omega)) only [hp_drew, hp_drewN, hp_alloc, hp_other, hp_same, hp_new, upd_cells, Option.map_some]); done)); intro p2; refine step_append_src rfl (.tmp 3) (.tmp 6) 45 rfl W1.heap.size 9 i0 (.string ⟨#[]⟩) 1 16 Tryz.underlying45 hi hz0 hz1 hz2 rfl (by decide) (.slice (some ⟨w2.heap.size, 0, none⟩) 0 0) 0 [] (by simp [Act.eval, Act.put]) (owns_none p1 (by omega)) (a0) (np) c0 (strC ps) (by simp [Act.eval, Act.put]) (HX.out.2.1 _ (by first | exact HC.out.1 | exact HC.out.1.comp (by exact frA) | exact frA)) (strC_one ps) (by unfold maxLen; omega) (by omega) (by first | omega | (simp; done) | (simp; omega)) ?_; intro u1 w6 hown g6 hk6; have f6 : Fr Nil W1 w6 := Fr.grown (S := Nil) (by first | exact HC.out.1 | exact HC.out.1.comp (by exact frA) | exact frA) g6 (fun k q hk => by simp [Value.ownBlock] at q; omega); have bd6 : Blk w6 (w2.heap.size + 1) #[.string ⟨#[45, 62]⟩, .string ⟨t.toArray⟩] 9 := (Fr.grown (S := fun k => k = w2.heap.size) (Fr.refl _ _) g6 (fun k q hk => by have e : some (w2.heap.size) = some k := q; injection e with e; exact e.symm)).blk p2 (fun z => by have z' : w2.heap.size + 1 = w2.heap.size := z; omega); have HBD := Lib.hid bd6; have l6 := bd6.lt; clear bd6 p2; have H6 := Lib.hid (And.intro (show w6.ownsRow W1.heap.size 9 1 u1 np (strC ps) by rw [Nat.zero_add, List.nil_append] at hown; exact hown) f6); have s6 := f6.size; clear hown g6 hk6 f6 p1)
   | (refine pre_blk (b := w2.heap.size + 1) (cs := #[]) (t := 9) ?_ ?_; (focus ((unfold Blk; simp (disch := first | omega | (simp; done) | (simp; omega)) only [hp_drew, hp_drewN, hp_alloc, hp_other, hp_same, hp_new, upd_cells, Option.map_some]); done)); intro p1; refine pre_blk (b := w2.heap.size) (cs := #[.string ⟨#[45, 62]⟩, .string ⟨t.toArray⟩]) (t := 9) ?_ ?_; (focus ((unfold Blk; simp (disch := first | omega | (simp; done) | (simp; omega)) only [hp_drew, hp_drewN, hp_alloc, hp_other, hp_same, hp_new, upd_cells, Option.map_some]); done)); intro p2; refine step_append_src rfl (.tmp 3) (.tmp 6) 45 rfl W1.heap.size 9 i0 (.string ⟨#[]⟩) 1 16 Tryz.underlying45 hi hz0 hz1 hz2 rfl (by decide) (.slice (some ⟨w2.heap.size + 1, 0, none⟩) 0 0) 0 [] (by simp [Act.eval, Act.put]) (owns_none p1 (by omega)) (a0) (np) c0 (strC ps) (by simp [Act.eval, Act.put]) (HX.out.2.1 _ (by first | exact HC.out.1 | exact HC.out.1.comp (by exact frA) | exact frA)) (strC_one ps) (by unfold maxLen; omega) (by omega) (by first | omega | (simp; done) | (simp; omega)) ?_; intro u1 w6 hown g6 hk6; have f6 : Fr Nil W1 w6 := Fr.grown (S := Nil) (by first | exact HC.out.1 | exact HC.out.1.comp (by exact frA) | exact frA) g6 (fun k q hk => by simp [Value.ownBlock] at q; omega); have bd6 : Blk w6 (w2.heap.size) #[.string ⟨#[45, 62]⟩, .string ⟨t.toArray⟩] 9 := (Fr.grown (S := fun k => k = w2.heap.size + 1) (Fr.refl _ _) g6 (fun k q hk => by have e : some (w2.heap.size + 1) = some k := q; injection e with e; exact e.symm)).blk p2 (fun z => by have z' : w2.heap.size = w2.heap.size + 1 := z; omega); have HBD := Lib.hid bd6; have l6 := bd6.lt; clear bd6 p2; have H6 := Lib.hid (And.intro (show w6.ownsRow W1.heap.size 9 1 u1 np (strC ps) by rw [Nat.zero_add, List.nil_append] at hown; exact hown) f6); have s6 := f6.size; clear hown g6 hk6 f6 p1)
   | (refine pre_blk (b := w2.heap.size) (cs := #[]) (t := 9) ?_ ?_; (focus ((unfold Blk; simp (disch := first | omega | (simp; done) | (simp; omega)) only [hp_drew, hp_drewN, hp_alloc, hp_other, hp_same, hp_new, upd_cells, Option.map_some]); done)); intro p1; refine step_append_src rfl (.tmp 3) (.tmp 6) 45 rfl W1.heap.size 9 i0 (.string ⟨#[]⟩) 1 16 Tryz.underlying45 hi hz0 hz1 hz2 rfl (by decide) (.slice (some ⟨w2.heap.size, 0, none⟩) 0 0) 0 [] (by simp [Act.eval, Act.put]) (owns_none p1 (by omega)) (a0) (np) c0 (strC ps) (by simp [Act.eval, Act.put]) (HX.out.2.1 _ (by first | exact HC.out.1 | exact HC.out.1.comp (by exact frA) | exact frA)) (strC_one ps) (by unfold maxLen; omega) (by omega) (by first | omega | (simp; done) | (simp; omega)) ?_; intro u1 w6 hown g6 hk6; have f6 : Fr Nil W1 w6 := Fr.grown (S := Nil) (by first | exact HC.out.1 | exact HC.out.1.comp (by exact frA) | exact frA) g6 (fun k q hk => by simp [Value.ownBlock] at q; omega); have H6 := Lib.hid (And.intro (show w6.ownsRow W1.heap.size 9 1 u1 np (strC ps) by rw [Nat.zero_add, List.nil_append] at hown; exact hown) f6); have s6 := f6.size; clear hown g6 hk6 f6 p1))
  | (refine is_app (.tmp 7) (.tmp 10) 45 rfl ?_; first
   | (refine pre_blk (b := w2.heap.size) (cs := #[.string ⟨#[45, 62]⟩, .string ⟨t.toArray⟩]) (t := 9) ?_ ?_; (focus ((unfold Blk; simp (disch := first | omega | (simp; done) | (simp; omega)) only [hp_drew, hp_drewN, hp_alloc, hp_other, hp_same, hp_new, upd_cells, Option.map_some]); done)); intro p2; refine step_append_src rfl (.tmp 7) (.tmp 10) 45 rfl W1.heap.size 9 i0 (.string ⟨#[]⟩) 1 16 Tryz.underlying45 hi hz0 hz1 hz2 rfl (by decide) u1 np (strC ps) (by simp [Act.eval, Act.put]) (owns_fr (HC.out.2) (by exact frA)) (some ⟨w2.heap.size, 0, none⟩) (2) 2 [.string ⟨#[45, 62]⟩, .string ⟨t.toArray⟩] (by simp [Act.eval, Act.put]) (src_two p2) (by simp [Value.oneCell']) (by unfold maxLen; omega) (by omega) (by first | omega | (simp; done) | (simp; omega)) ?_; intro u2 w7 hown g7 hk7; have f7 : Fr Nil W1 w7 := Fr.grown (S := Nil) (by first | exact HC.out.1 | exact H6.out.2 | (refine HC.out.1.comp ?_; (exact frA); done) | (refine H6.out.2.comp ?_; (exact frA); done)) g7 (fun k q hk => by have := ((HC.out.2).lt k q).1; omega); obtain ⟨ya, yc, rfl⟩ := owns_shape hown; have H7 := Lib.hid (And.intro (owns_rowS (by rw [HX.out.2.2.1]; exact hown) HX.out.2.2.2.1) f7); clear hown g7 hk7 f7 p2)
   | (refine pre_blk (b := w6.heap.size) (cs := #[.string ⟨#[45, 62]⟩, .string ⟨t.toArray⟩]) (t := 9) ?_ ?_; (focus ((unfold Blk; simp (disch := first | omega | (simp; done) | (simp; omega)) only [hp_drew, hp_drewN, hp_alloc, hp_other, hp_same, hp_new, upd_cells, Option.map_some]); done)); intro p2; refine step_append_src rfl (.tmp 7) (.tmp 10) 45 rfl W1.heap.size 9 i0 (.string ⟨#[]⟩) 1 16 Tryz.underlying45 hi hz0 hz1 hz2 rfl (by decide) u1 np (strC ps) (by simp [Act.eval, Act.put]) (owns_fr (H6.out.1) (by exact frA)) (some ⟨w6.heap.size, 0, none⟩) (2) 2 [.string ⟨#[45, 62]⟩, .string ⟨t.toArray⟩] (by simp [Act.eval, Act.put]) (src_two p2) (by simp [Value.oneCell']) (by unfold maxLen; omega) (by omega) (by first | omega | (simp; done) | (simp; omega)) ?_; intro u2 w7 hown g7 hk7; have f7 : Fr Nil W1 w7 := Fr.grown (S := Nil) (by first | exact HC.out.1 | exact H6.out.2 | (refine HC.out.1.comp ?_; (exact frA); done) | (refine H6.out.2.comp ?_; (exact frA); done)) g7 (fun k q hk => by have := ((H6.out.1).lt k q).1; omega); obtain ⟨ya, yc, rfl⟩ := owns_shape hown; have H7 := Lib.hid (And.intro (owns_rowS (by rw [HX.out.2.2.1]; exact hown) HX.out.2.2.2.1) f7); clear hown g7 hk7 f7 p2)
   | (refine pre_blk (b := w2.heap.size) (cs := #[.string ⟨#[45, 62]⟩, .string ⟨t.toArray⟩]) (t := 9) ?_ ?_; (focus (refine Fr.blk (S := Nil) ?_ (HBD.out) (fun q => q); (exact frA); done)); intro p2; refine step_append_src rfl (.tmp 7) (.tmp 10) 45 rfl W1.heap.size 9 i0 (.string ⟨#[]⟩) 1 16 Tryz.underlying45 hi hz0 hz1 hz2 rfl (by decide) u1 np (strC ps) (by simp [Act.eval, Act.put]) (owns_fr (H6.out.1) (by exact frA)) (some ⟨w2.heap.size, 0, none⟩) (2) 2 [.string ⟨#[45, 62]⟩, .string ⟨t.toArray⟩] (by simp [Act.eval, Act.put]) (src_two p2) (by simp [Value.oneCell']) (by unfold maxLen; omega) (by omega) (by first | omega | (simp; done) | (simp; omega)) ?_; intro u2 w7 hown g7 hk7; have f7 : Fr Nil W1 w7 := Fr.grown (S := Nil) (by first | exact HC.out.1 | exact H6.out.2 | (refine HC.out.1.comp ?_; (exact frA); done) | (refine H6.out.2.comp ?_; (exact frA); done)) g7 (fun k q hk => by have := ((H6.out.1).lt k q).1; omega); obtain ⟨ya, yc, rfl⟩ := owns_shape hown; have H7 := Lib.hid (And.intro (owns_rowS (by rw [HX.out.2.2.1]; exact hown) HX.out.2.2.2.1) f7); clear hown g7 hk7 f7 p2)
   | (refine pre_blk (b := w2.heap.size + 1) (cs := #[.string ⟨#[45, 62]⟩, .string ⟨t.toArray⟩]) (t := 9) ?_ ?_; (focus (refine Fr.blk (S := Nil) ?_ (HBD.out) (fun q => q); (exact frA); done)); intro p2; refine step_append_src rfl (.tmp 7) (.tmp 10) 45 rfl W1.heap.size 9 i0 (.string ⟨#[]⟩) 1 16 Tryz.underlying45 hi hz0 hz1 hz2 rfl (by decide) u1 np (strC ps) (by simp [Act.eval, Act.put]) (owns_fr (H6.out.1) (by exact frA)) (some ⟨w2.heap.size + 1, 0, none⟩) (2) 2 [.string ⟨#[45, 62]⟩, .string ⟨t.toArray⟩] (by simp [Act.eval, Act.put]) (src_two p2) (by simp [Value.oneCell']) (by unfold maxLen; omega) (by omega) (by first | omega | (simp; done) | (simp; omega)) ?_; intro u2 w7 hown g7 hk7; have f7 : Fr Nil W1 w7 := Fr.grown (S := Nil) (by first | exact HC.out.1 | exact H6.out.2 | (refine HC.out.1.comp ?_; (exact frA); done) | (refine H6.out.2.comp ?_; (exact frA); done)) g7 (fun k q hk => by have := ((H6.out.1).lt k q).1; omega); obtain ⟨ya, yc, rfl⟩ := owns_shape hown; have H7 := Lib.hid (And.intro (owns_rowS (by rw [HX.out.2.2.1]; exact hown) HX.out.2.2.2.1) f7); clear hown g7 hk7 f7 p2))
  | (go_at_call 66; refine (HX.out.2.2.2.2 _ _ _ (H7.out.1.frN (by first | assumption | exact frA))).mono ?_; rintro r w8 ⟨rfl, f8⟩; have g8 : Fr Nil W1 w8 := H7.out.2.comp (Fr.comp (S := Nil) (by exact frA) f8); have HG8 := Lib.hid g8; clear f8 g8))
 all_goals
  go_wp2
  go_ret
  exact ⟨rfl, HF1.out.comp (by first | assumption | exact HG8.out | (refine HG8.out.comp ?_; (exact frA); done))⟩
theorem palt_num {w : World} {c : List Value} {n : List UInt8} {fl : Bool} {bi : Nat} {ns : List (List UInt8)} {e : TE} (h : AAt (fun _ => False) w c (.mk 1 n fl bi ns e)) (hE : PsOk e) (hb : bi < 18446744073709551616) (hs : svE e) (hz : zE e + 64 + n.length + lenS ns ≤ 50000000) (hT : Tabs w) :
 Calls Tryz.prog 71 #[.agg c.toArray] w fun r w' => r = .returned (.string ⟨(swA1 prF (.mk 1 n fl bi ns e)).toArray⟩) ∧ Fr Nil w w' := by
 obtain ⟨i0, hi, hz0, hz1, hz2⟩ := info_parts infoS
 obtain ⟨pn, ec, rfl, hr, he⟩ := h
 obtain ⟨pa, pc, rfl⟩ := RowC.shape hr
 obtain ⟨k9, nm9, fl9, bi9, a0, n0, c0, a1, n1, c1, a2, n2, c2, a3, n3, c3, rfl⟩ := he.formE
 obtain ⟨np, hnp⟩ : ∃ np, ns.length = np := ⟨_, rfl⟩
 have hr' : RowS (fun _ => False) w (.slice pa np pc) ns := by rw [← hnp]; exact hr
 have ht := swE_le (e := e) (by omega)
 have hex : ∀ w', Fr Nil w w' → Calls Tryz.prog 18 #[.agg #[.int .i64 k9, .string nm9, .bool fl9, .int .u64 bi9, .slice a0 n0 c0, .slice a1 n1 c1, .slice a2 n2 c2, .slice a3 n3 c3]] w' fun r w2 => r = .returned (.string ⟨(swE prF e).toArray⟩) ∧ Fr Nil w' w2 := fun w' f => hE w' _ (he.frN f) hs (by omega) (hT.fr f)
 have hnum : ∀ w', Fr Nil w w' → Calls Tryz.prog 63 #[.agg #[.bool fl, .int .u64 (bi : Int)]] w' fun r w2 => r = .returned (.string ⟨(numT (prF fl bi)).toArray⟩) ∧ Fr Nil w' w2 := fun w' f => pnum_any (w := w') fl bi hb (hT.fr f)
 have hnl := num_len prF prF_len fl bi
 rw [show swA1 prF (.mk 1 n fl bi ns e) = joinS ([numT (prF fl bi)] ++ [[45, 62], swE prF e]) from rfl]
 obtain ⟨t, htt⟩ : ∃ t, swE prF e = t := ⟨_, rfl⟩
 obtain ⟨y, hy⟩ : ∃ t, numT (prF fl bi) = t := ⟨_, rfl⟩
 rw [htt] at ht hex ⊢
 rw [hy] at hnl ⊢
 simp only [hy] at hnum
 have hp9 := len_lenS ns
 have hnp9 : np ≤ 50000000 := by omega
 show Calls _ _ _ _ fun r w' => r = .returned (.string ⟨(joinS [y, [45, 62], t]).toArray⟩) ∧ Fr Nil w w'
 have hsC : strC [y, [45, 62], t] = [.string ⟨y.toArray⟩] ++ [.string ⟨#[45, 62]⟩, .string ⟨t.toArray⟩] := rfl
 have hlC : [y, [45, 62], t].length = 3 := rfl
 have hjn : ∀ (w' : World) (a : Option Addr) (c : Nat), RowS (fun _ => False) w' (.slice a 3 c) [y, [45, 62], t] → Calls Tryz.prog 66 #[.slice a 3 c] w' fun r w2 => r = .returned (.string ⟨(joinS [y, [45, 62], t]).toArray⟩) ∧ Fr Nil w' w2 := fun w' a c hr =>
  pjoin_any hr hlC (by rw [lenS_cons, lenS_cons, lenS_cons, lenS_nil]; simp; omega)
 show Calls _ _ #[.agg #[.int .i64 1, .string ⟨n.toArray⟩, .bool fl, .int .u64 (bi : Int), .slice pa ns.length pc, .int .i64 k9, .string nm9, .bool fl9, .int .u64 bi9, .slice a0 n0 c0, .slice a1 n1 c1, .slice a2 n2 c2, .slice a3 n3 c3]] _ _
 rw [hnp]
 obtain ⟨W1, hW1⟩ : ∃ W1, w.alloc (.cells #[.int .i64 1, .string ⟨n.toArray⟩, .bool fl, .int .u64 (bi : Int), .slice pa np pc, .int .i64 k9, .string nm9, .bool fl9, .int .u64 bi9, .slice a0 n0 c0, .slice a1 n1 c1, .slice a2 n2 c2, .slice a3 n3 c3] 120) = W1 := ⟨_, rfl⟩
 obtain ⟨T, hTs⟩ : ∃ T, w.heap.size = T := ⟨_, rfl⟩
 have f1 : Fr Nil w W1 := by rw [← hW1]; exact frA
 have b1 : Blk W1 T #[.int .i64 1, .string ⟨n.toArray⟩, .bool fl, .int .u64 (bi : Int), .slice pa np pc, .int .i64 k9, .string nm9, .bool fl9, .int .u64 bi9, .slice a0 n0 c0, .slice a1 n1 c1, .slice a2 n2 c2, .slice a3 n3 c3] 120 := by rw [← hW1, ← hTs]; exact Blk.new _ _ _
 have hsz1 : T < W1.heap.size := b1.lt
 have HK2 : Hid (∀ w', Fr Nil W1 w' → w'.cell? ⟨T, 0, none⟩ = some (.int .i64 1) ∧ w'.cell? ⟨T, 1, none⟩ = some (.string ⟨n.toArray⟩) ∧ w'.cell? ⟨T, 2, none⟩ = some (.bool fl) ∧ w'.cell? ⟨T, 3, none⟩ = some (.int .u64 (bi : Int)) ∧ w'.cell? ⟨T, 4, none⟩ = some (.slice pa np pc) ∧ w'.cell? ⟨T, 5, none⟩ = some (.int .i64 k9) ∧ w'.cell? ⟨T, 6, none⟩ = some (.string nm9) ∧ w'.cell? ⟨T, 7, none⟩ = some (.bool fl9) ∧ w'.cell? ⟨T, 8, none⟩ = some (.int .u64 bi9) ∧ w'.cell? ⟨T, 9, none⟩ = some (.slice a0 n0 c0) ∧ w'.cell? ⟨T, 10, none⟩ = some (.slice a1 n1 c1) ∧ w'.cell? ⟨T, 11, none⟩ = some (.slice a2 n2 c2) ∧ w'.cell? ⟨T, 12, none⟩ = some (.slice a3 n3 c3)) := Lib.hid (fun w' f => by
  have b := f.blk b1 (fun q => q)
  have z0 := b.cell 0
  have z1 := b.cell 1
  have z2 := b.cell 2
  have z3 := b.cell 3
  have z4 := b.cell 4
  have z5 := b.cell 5
  have z6 := b.cell 6
  have z7 := b.cell 7
  have z8 := b.cell 8
  have z9 := b.cell 9
  have z10 := b.cell 10
  have z11 := b.cell 11
  have z12 := b.cell 12
  simp at z0 z1 z2 z3 z4 z5 z6 z7 z8 z9 z10 z11 z12
  exact ⟨z0, z1, z2, z3, z4, z5, z6, z7, z8, z9, z10, z11, z12⟩)
 obtain ⟨z0, z1, z2, z3, z4, z5, z6, z7, z8, z9, z10, z11, z12⟩ := HK2.out W1 (Fr.refl _ _)
 have zl := b1.lt
 have HF1 := Lib.hid f1
 have HX := Lib.hid (And.intro (fun w' (f : Fr Nil W1 w') => hex w' (HF1.out.comp f)) (And.intro (fun w' (f : Fr Nil W1 w') => rows_src (hr'.frN (HF1.out.comp f)) hnp) (And.intro hsC (And.intro hlC (And.intro hjn (fun w' (f : Fr Nil W1 w') => hnum w' (HF1.out.comp f)))))))
 clear hex hsC hlC hjn hnum hr hr' he hE hs hz hT hnp htt hy hb hp9 b1 f1
 go_enter Tryz.func71, Tryz.ntmps71
 go_upto_region 1 with fail
 try rw [hTs]
 try rw [hW1]
 clear hW1 hTs
 go_wp2_with (first | (at_builtin; refine wpList_append_src rfl (.tmp 6) (.tmp 8) 45 rfl W1.heap.size 9 i0 (.string ⟨#[]⟩) 1 16 Tryz.underlying45 hi hz0 hz1 hz2 rfl (by decide) (.slice (some ⟨W1.heap.size, 0, none⟩) 1 1) 1 [.string ⟨n.toArray⟩] rfl (owns_one (by exact blk0) (Nat.le_refl _)) (pa) (np) pc (strC ns) rfl (HX.out.2.1 _ (by exact frA)) (strC_one ns) (by unfold maxLen; omega) (by omega) (by simp) ?_; intro v3 w3 hown g3 hk3; have f3 : Fr Nil W1 w3 := Fr.grown (S := Nil) (by exact frA) g3 (fun k q hk => by have e : some W1.heap.size = some k := q; injection e with e; omega); have H3 := Lib.hid (And.intro hown f3); have s3 := f3.size; clear hown g3 hk3 f3; obtain ⟨z0, z1, z2, z3, z4, z5, z6, z7, z8, z9, z10, z11, z12⟩ := HK2.out w3 H3.out.2; have zl := World.block_lt_of_cell? _ _ z0) | fail)
 refine (HX.out.2.2.2.2.2 _ (by first | exact H3.out.2 | exact H3.out.2.comp (by exact frA))).mono ?_
 rintro r w4 ⟨rfl, f4⟩
 have F4 : Fr Nil W1 w4 := H3.out.2.comp (Fr.comp (S := Nil) (by exact frA) f4)
 have H4 := Lib.hid F4
 have s4 := F4.size
 clear f4 z0 z1 z2 z3 z4 z5 z6 z7 z8 z9 z10 z11 z12 zl
 obtain ⟨z0, z1, z2, z3, z4, z5, z6, z7, z8, z9, z10, z11, z12⟩ := HK2.out w4 F4
 have zl := World.block_lt_of_cell? _ _ z0
 clear F4
 go_wp2_with fail
 refine pre_call (b := w4.heap.size) (cs := #[.string ⟨y.toArray⟩]) (t := 9) (by exact blk0) (fun p1 => ?_)
 refine (HX.out.1 _ (by first | exact H4.out | exact H4.out.comp (by exact frA))).mono ?_
 rintro r w5 ⟨rfl, f5⟩
 have F5 : Fr Nil w4 w5 := Fr.comp (S := Nil) (by exact frA) f5
 have HP := Lib.hid (f5.blk p1 (fun q => q))
 have hpl := HP.out.lt
 have H5 := Lib.hid (H4.out.comp F5)
 have s5 := F5.size
 clear f5 F5 p1 z0 z1 z2 z3 z4 z5 z6 z7 z8 z9 z10 z11 z12 zl
 go_wp2_with (first | (at_builtin; refine wpList_append_src rfl (.tmp 17) (.tmp 21) 45 rfl W1.heap.size 9 i0 (.string ⟨#[]⟩) 1 16 Tryz.underlying45 hi hz0 hz1 hz2 rfl (by decide) (.slice (some ⟨w4.heap.size, 0, none⟩) 1 1) 1 [.string ⟨y.toArray⟩] rfl (owns_one (Fr.blk (S := Nil) (by exact frA) HP.out (fun q => q)) (by omega)) (some ⟨w5.heap.size, 0, none⟩) (2) 2 [.string ⟨#[45, 62]⟩, .string ⟨t.toArray⟩] rfl (src_two (t := 9) (by exact blk0)) (by simp [Value.oneCell']) (by unfold maxLen; omega) (by omega) (by simp; omega) ?_; intro v6 w6 hown g6 hk6; have f6 : Fr Nil W1 w6 := Fr.grown (S := Nil) (H5.out.comp (by exact frA)) g6 (fun k q hk => by have e : some w4.heap.size = some k := q; injection e with e; omega); obtain ⟨ya, yc, rfl⟩ := owns_shape hown; have H6 := Lib.hid (And.intro (owns_rowS (by rw [HX.out.2.2.1]; exact hown) HX.out.2.2.2.1) f6); clear hown g6 hk6 f6) | fail)
 refine (HX.out.2.2.2.2.1 _ _ _ (H6.out.1.frN (by exact frA))).mono ?_
 rintro r w7 ⟨rfl, f7⟩
 have HF : Hid (Fr Nil w w7) := Lib.hid (HF1.out.comp (H6.out.2.comp (Fr.comp (S := Nil) (by exact frA) f7)))
 clear f7
 go_wp2
 go_ret
 exact ⟨rfl, HF.out⟩
theorem palt_con {w : World} {c : List Value} {k : Nat} {n : List UInt8} {fl : Bool} {bi : Nat} {ns : List (List UInt8)} {e : TE} (h : AAt (fun _ => False) w c (.mk k n fl bi ns e)) (hk1 : k ≠ 1) (hE : PsOk e) (hb : bi < 18446744073709551616) (hs : svE e) (hz : zE e + 64 + n.length + lenS ns ≤ 50000000) (hT : Tabs w) :
 Calls Tryz.prog 71 #[.agg c.toArray] w fun r w' => r = .returned (.string ⟨(swA1 prF (.mk k n fl bi ns e)).toArray⟩) ∧ Fr Nil w w' := by
 obtain ⟨i0, hi, hz0, hz1, hz2⟩ := info_parts infoS
 obtain ⟨pn, ec, rfl, hr, he⟩ := h
 obtain ⟨pa, pc, rfl⟩ := RowC.shape hr
 obtain ⟨k9, nm9, fl9, bi9, a0, n0, c0, a1, n1, c1, a2, n2, c2, a3, n3, c3, rfl⟩ := he.formE
 obtain ⟨np, hnp⟩ : ∃ np, ns.length = np := ⟨_, rfl⟩
 have hr' : RowS (fun _ => False) w (.slice pa np pc) ns := by rw [← hnp]; exact hr
 have ht := swE_le (e := e) (by omega)
 have hex : ∀ w', Fr Nil w w' → Calls Tryz.prog 18 #[.agg #[.int .i64 k9, .string nm9, .bool fl9, .int .u64 bi9, .slice a0 n0 c0, .slice a1 n1 c1, .slice a2 n2 c2, .slice a3 n3 c3]] w' fun r w2 => r = .returned (.string ⟨(swE prF e).toArray⟩) ∧ Fr Nil w' w2 := fun w' f => hE w' _ (he.frN f) hs (by omega) (hT.fr f)
 have hnum : ∀ w', Fr Nil w w' → Calls Tryz.prog 63 #[.agg #[.bool fl, .int .u64 (bi : Int)]] w' fun r w2 => r = .returned (.string ⟨(numT (prF fl bi)).toArray⟩) ∧ Fr Nil w' w2 := fun w' f => pnum_any (w := w') fl bi hb (hT.fr f)
 have hnl := num_len prF prF_len fl bi
 rw [show swA1 prF (.mk k n fl bi ns e) = joinS ((n :: ns) ++ [[45, 62], swE prF e]) from by show joinS ((if k = 1 then [numT (prF fl bi)] else n :: ns) ++ [[45, 62], swE prF e]) = _; rw [if_neg hk1]]
 obtain ⟨t, htt⟩ : ∃ t, swE prF e = t := ⟨_, rfl⟩
 obtain ⟨y, hy⟩ : ∃ t, numT (prF fl bi) = t := ⟨_, rfl⟩
 rw [htt] at ht hex ⊢
 rw [hy] at hnl
 simp only [hy] at hnum
 have hp9 := len_lenS ns
 have hnp9 : np ≤ 50000000 := by omega
 have hsC : strC ((n :: ns) ++ [[45, 62], t]) = ([.string ⟨n.toArray⟩] ++ strC ns) ++ [.string ⟨#[45, 62]⟩, .string ⟨t.toArray⟩] := by simp [strC]
 have hlC : ((n :: ns) ++ [[45, 62], t]).length = (1 + np + 2) := by rw [List.length_append, List.length_cons, hnp]; show np + 1 + 2 = _; omega
 have hjn : ∀ (w' : World) (a : Option Addr) (c : Nat), RowS (fun _ => False) w' (.slice a (1 + np + 2) c) ((n :: ns) ++ [[45, 62], t]) → Calls Tryz.prog 66 #[.slice a (1 + np + 2) c] w' fun r w2 => r = .returned (.string ⟨(joinS ((n :: ns) ++ [[45, 62], t])).toArray⟩) ∧ Fr Nil w' w2 := fun w' a c hr =>
  pjoin_any hr hlC (by rw [lenS_app, lenS_cons, lenS_cons, lenS_cons, lenS_nil]; simp; omega)
 show Calls _ _ #[.agg #[.int .i64 (k : Int), .string ⟨n.toArray⟩, .bool fl, .int .u64 (bi : Int), .slice pa ns.length pc, .int .i64 k9, .string nm9, .bool fl9, .int .u64 bi9, .slice a0 n0 c0, .slice a1 n1 c1, .slice a2 n2 c2, .slice a3 n3 c3]] _ _
 rw [hnp]
 obtain ⟨W1, hW1⟩ : ∃ W1, w.alloc (.cells #[.int .i64 (k : Int), .string ⟨n.toArray⟩, .bool fl, .int .u64 (bi : Int), .slice pa np pc, .int .i64 k9, .string nm9, .bool fl9, .int .u64 bi9, .slice a0 n0 c0, .slice a1 n1 c1, .slice a2 n2 c2, .slice a3 n3 c3] 120) = W1 := ⟨_, rfl⟩
 obtain ⟨T, hTs⟩ : ∃ T, w.heap.size = T := ⟨_, rfl⟩
 have f1 : Fr Nil w W1 := by rw [← hW1]; exact frA
 have b1 : Blk W1 T #[.int .i64 (k : Int), .string ⟨n.toArray⟩, .bool fl, .int .u64 (bi : Int), .slice pa np pc, .int .i64 k9, .string nm9, .bool fl9, .int .u64 bi9, .slice a0 n0 c0, .slice a1 n1 c1, .slice a2 n2 c2, .slice a3 n3 c3] 120 := by rw [← hW1, ← hTs]; exact Blk.new _ _ _
 have hsz1 : T < W1.heap.size := b1.lt
 have HK2 : Hid (∀ w', Fr Nil W1 w' → w'.cell? ⟨T, 0, none⟩ = some (.int .i64 (k : Int)) ∧ w'.cell? ⟨T, 1, none⟩ = some (.string ⟨n.toArray⟩) ∧ w'.cell? ⟨T, 2, none⟩ = some (.bool fl) ∧ w'.cell? ⟨T, 3, none⟩ = some (.int .u64 (bi : Int)) ∧ w'.cell? ⟨T, 4, none⟩ = some (.slice pa np pc) ∧ w'.cell? ⟨T, 5, none⟩ = some (.int .i64 k9) ∧ w'.cell? ⟨T, 6, none⟩ = some (.string nm9) ∧ w'.cell? ⟨T, 7, none⟩ = some (.bool fl9) ∧ w'.cell? ⟨T, 8, none⟩ = some (.int .u64 bi9) ∧ w'.cell? ⟨T, 9, none⟩ = some (.slice a0 n0 c0) ∧ w'.cell? ⟨T, 10, none⟩ = some (.slice a1 n1 c1) ∧ w'.cell? ⟨T, 11, none⟩ = some (.slice a2 n2 c2) ∧ w'.cell? ⟨T, 12, none⟩ = some (.slice a3 n3 c3)) := Lib.hid (fun w' f => by
  have b := f.blk b1 (fun q => q)
  have z0 := b.cell 0
  have z1 := b.cell 1
  have z2 := b.cell 2
  have z3 := b.cell 3
  have z4 := b.cell 4
  have z5 := b.cell 5
  have z6 := b.cell 6
  have z7 := b.cell 7
  have z8 := b.cell 8
  have z9 := b.cell 9
  have z10 := b.cell 10
  have z11 := b.cell 11
  have z12 := b.cell 12
  simp at z0 z1 z2 z3 z4 z5 z6 z7 z8 z9 z10 z11 z12
  exact ⟨z0, z1, z2, z3, z4, z5, z6, z7, z8, z9, z10, z11, z12⟩)
 obtain ⟨z0, z1, z2, z3, z4, z5, z6, z7, z8, z9, z10, z11, z12⟩ := HK2.out W1 (Fr.refl _ _)
 have zl := b1.lt
 have HF1 := Lib.hid f1
 have HX := Lib.hid (And.intro (fun w' (f : Fr Nil W1 w') => hex w' (HF1.out.comp f)) (And.intro (fun w' (f : Fr Nil W1 w') => rows_src (hr'.frN (HF1.out.comp f)) hnp) (And.intro hsC (And.intro hlC (And.intro hjn (fun w' (f : Fr Nil W1 w') => hnum w' (HF1.out.comp f)))))))
 clear hex hsC hlC hjn hnum hr hr' he hE hs hz hT hnp htt hy hb hp9 b1 f1
 have d1 : ((k : Int) == 1) = false := by rw [beq_eq_false_iff_ne]; omega
 have d2 : ¬ (k : Int) = 1 := by omega
 go_enter Tryz.func71, Tryz.ntmps71
 go_upto_region 1 with fail
 try rw [hTs]
 try rw [hW1]
 clear hW1 hTs
 go_wp2_with (first | (at_builtin; refine wpList_append_src rfl (.tmp 6) (.tmp 8) 45 rfl W1.heap.size 9 i0 (.string ⟨#[]⟩) 1 16 Tryz.underlying45 hi hz0 hz1 hz2 rfl (by decide) (.slice (some ⟨W1.heap.size, 0, none⟩) 1 1) 1 [.string ⟨n.toArray⟩] rfl (owns_one (by exact blk0) (Nat.le_refl _)) (pa) (np) pc (strC ns) rfl (HX.out.2.1 _ (by exact frA)) (strC_one ns) (by unfold maxLen; omega) (by omega) (by simp) ?_; intro v3 w3 hown g3 hk3; have f3 : Fr Nil W1 w3 := Fr.grown (S := Nil) (by exact frA) g3 (fun k q hk => by have e : some W1.heap.size = some k := q; injection e with e; omega); have H3 := Lib.hid (And.intro hown f3); have s3 := f3.size; clear hown g3 hk3 f3; obtain ⟨z0, z1, z2, z3, z4, z5, z6, z7, z8, z9, z10, z11, z12⟩ := HK2.out w3 H3.out.2; have zl := World.block_lt_of_cell? _ _ z0) | fail)
 refine (HX.out.1 _ (by first | exact H3.out.2 | exact H3.out.2.comp (by exact frA))).mono ?_
 rintro r w5 ⟨rfl, f5⟩
 have F5 : Fr Nil w3 w5 := Fr.comp (S := Nil) (by exact frA) f5
 have H5 := Lib.hid (H3.out.2.comp F5)
 have HO := Lib.hid (owns_fr H3.out.1 F5)
 have s5 := F5.size
 clear f5 F5 z0 z1 z2 z3 z4 z5 z6 z7 z8 z9 z10 z11 z12 zl
 go_wp2_with (first | (at_builtin; refine wpList_append_src rfl (.tmp 17) (.tmp 21) 45 rfl W1.heap.size 9 i0 (.string ⟨#[]⟩) 1 16 Tryz.underlying45 hi hz0 hz1 hz2 rfl (by decide) v3 (1 + np) ([.string ⟨n.toArray⟩] ++ strC ns) rfl (owns_fr HO.out (by exact frA)) (some ⟨w5.heap.size, 0, none⟩) (2) 2 [.string ⟨#[45, 62]⟩, .string ⟨t.toArray⟩] rfl (src_two (t := 9) (by exact blk0)) (by simp [Value.oneCell']) (by unfold maxLen; omega) (by omega) (by simp; omega) ?_; intro v6 w6 hown g6 hk6; have f6 : Fr Nil W1 w6 := Fr.grown (S := Nil) (H5.out.comp (by exact frA)) g6 (fun k q hk => by have := (HO.out.lt k q).1; omega); obtain ⟨ya, yc, rfl⟩ := owns_shape hown; have H6 := Lib.hid (And.intro (owns_rowS (by rw [HX.out.2.2.1]; exact hown) HX.out.2.2.2.1) f6); clear hown g6 hk6 f6) | fail)
 refine (HX.out.2.2.2.2.1 _ _ _ (H6.out.1.frN (by exact frA))).mono ?_
 rintro r w7 ⟨rfl, f7⟩
 have HF : Hid (Fr Nil w w7) := Lib.hid (HF1.out.comp (H6.out.2.comp (Fr.comp (S := Nil) (by exact frA) f7)))
 clear f7
 go_wp2
 go_ret
 exact ⟨rfl, HF.out⟩
end Go.Proofs.YtlnmicddobgppaaGreatDoor
