/-
  The program's binds (layer 8), given what expr does. No conditions. The program's lambdas (layer 8), given what expr does. No conditions. The program's atom (layer 8), given what expr does. No conditions.
-/
import Derived.Test.YtlnmicddobgppaaGreatDoorNnR
import Derived.Test.YtlnmicddobgppaaGreatDoorNnA
import Derived.Test.YtlnmicddobgppaaGreatDoorNnG
namespace Go.Proofs.YtlnmicddobgppaaGreatDoor
set_option maxRecDepth 100000
set_option maxHeartbeats 4000000
set_option linter.unusedSimpArgs false
set_option linter.unusedVariables false
open Go.RowKit
theorem need_stop {L : List TokV} {x : List UInt8} {s : PS} (h : s.e ≠ 0) : needF L x s = s := by
 unfold needF faultF
 rw [if_neg (fun q => h q.1), if_pos h]
theorem expr_stop {L : List TokV} {d : Nat} {s : PS} (h : s.e ≠ 0) : exprF L d s = (zeroE, s) := by
 cases d with
 | zero => unfold exprF; rw [if_pos h]
 | succ d => unfold exprF exprStep; rw [if_pos h]
def QReads (pb : Nat) (vT : Value) (L : List TokV) (d : Nat) (dp : Int) : Prop :=
 ∀ (w : World) (s : PS), s.e = 0 → QAt w pb vT L s.at_ dp → Calls Tryz.prog 76 #[.pointer (some ⟨pb, 0, none⟩)] w (QEnds pb vT L dp w (fun w' v => EVal (fun b => b < w.heap.size) w' v (exprF L d s).1) (exprF L d s).2)
section
variable {w : World} {pb : Nat} {vT : Value} {L : List TokV} {s : PS} {dp : Int} {d : Nat}
theorem qbind_any (hex : QReads pb vT L d dp) (hs : s.e = 0) (h : QAt w pb vT L s.at_ dp) :
 Calls Tryz.prog 40 #[.pointer (some ⟨pb, 0, none⟩)] w (QEnds pb vT L dp w (fun w' v => BVal (fun b => b < w.heap.size) w' v (bindF L (exprF L d) s).1) (bindF L (exprF L d) s).2) := by
 obtain ⟨T, hT⟩ : ∃ T, w.heap.size = T := ⟨_, rfl⟩
 obtain ⟨W1, hW1⟩ : ∃ W1, w.alloc (.cells #[.string ⟨#[]⟩, .slice none 0 0, .int .i64 0, .string ⟨#[]⟩, .bool false, .int .u64 0, .slice none 0 0, .slice none 0 0, .slice none 0 0, .slice none 0 0] 51) = W1 := ⟨_, rfl⟩
 have f1 : Fr Nil w W1 := by rw [← hW1]; exact frA
 have bT1 : Blk W1 T #[.string ⟨#[]⟩, .slice none 0 0, .int .i64 0, .string ⟨#[]⟩, .bool false, .int .u64 0, .slice none 0 0, .slice none 0 0, .slice none 0 0, .slice none 0 0] 51 := by rw [← hW1, ← hT]; exact Blk.new _ _ _
 have hs1 : W1.heap.size = T + 1 := by rw [← hW1, ← hT]; simp
 have hs1a : T + 1 ≤ W1.heap.size := Nat.le_of_eq hs1.symm
 have hpT : pb < T := by rw [← hT]; exact h.blk.lt
 have hSm := qsome_any hs (h.fr f1)
 have eb : bindF L (exprF L d) s = (.mk ((namesF L (fuelP L) true [] s).1.headD []) (namesF L (fuelP L) true [] s).1.tail (exprF L d (needF L [61] (namesF L (fuelP L) true [] s).2)).1, (exprF L d (needF L [61] (namesF L (fuelP L) true [] s).2)).2) := rfl
 rw [eb]
 by_cases hk : kindP L s = 1
 · have hne := names_e (L := L) (fuelP L) [] { s with at_ := s.at_ + 1 } hs
   rw [names_some hs hk] at hSm ⊢
   obtain ⟨x, hx⟩ : ∃ x, (peekT L s.at_).text = x := ⟨_, rfl⟩
   obtain ⟨⟨r, s1⟩, hr⟩ : ∃ R, namesF L (fuelP L) false [] { s with at_ := s.at_ + 1 } = R := ⟨_, rfl⟩
   rw [hx, hr] at hSm
   rw [hx, hr]
   rw [hr] at hne
   simp only at hne hSm
   show Calls _ _ _ _ (QEnds pb vT L dp w (fun w' v => BVal (fun b => b < w.heap.size) w' v (.mk x r (exprF L d (needF L [61] s1)).1)) (exprF L d (needF L [61] s1)).2)
   obtain ⟨n, hn⟩ : ∃ n, r.length = n := ⟨_, rfl⟩
   rw [List.length_cons, hn, hs1] at hSm
   obtain ⟨s2, hs2⟩ : ∃ s2, needF L [61] s1 = s2 := ⟨_, rfl⟩
   have hWn := fun w' (h' : QAt w' pb vT L s1.at_ dp) => qwant_any [61] hne h'
   rw [hs2] at hWn ⊢
   obtain ⟨E, hE⟩ : ∃ E, (exprF L d s2).1 = E := ⟨_, rfl⟩
   obtain ⟨s3, hs3⟩ : ∃ s3, (exprF L d s2).2 = s3 := ⟨_, rfl⟩
   rw [hE, hs3]
   have HX := Lib.hid (And.intro hSm (And.intro hWn (And.intro hne (And.intro hn (And.intro hex h)))))
   have HE3 := Lib.hid (And.intro hE hs3)
   clear hE hs3
   have H1 := Lib.hid (And.intro f1 bT1)
   clear hSm hWn hne hn hs2 hr hx hk hex f1 bT1 h eb
   have hwT1 : w.heap.size ≤ T := Nat.le_of_eq hT
   have HT := Lib.hid hT
   go_enter Tryz.func40, Tryz.ntmps40
   go_upto_region 1 with fail
   try rw [hT]
   try rw [hW1]
   clear hW1 hs1 hT
   go_wp2_with fail
   refine HX.out.1.mono ?_
   rintro e w2 (⟨_, v2, rfl, ho2, h2, f2⟩ | hbr)
   · obtain ⟨g, cap, rfl⟩ := Joins.ownsRow_form ho2 (by omega)
     have hgT := (ho2.lt g rfl).1
     have s2z := f2.size
     have H2 := Lib.hid (And.intro ho2 (And.intro h2 (And.intro (f2.blk H1.out.2 (fun q => by have q' : T = pb := q; omega)) ((Fr.of_nil H1.out.1).comp f2))))
     clear ho2 h2 f2
     go_wp2_with fail
     refine (HX.out.2.1 _ H2.out.2.1).mono ?_
     rintro e w3 (⟨hs20, v3, rfl, rfl, h3, f3⟩ | hbr)
     · have ho3 := owns_frS H2.out.1 f3 (fun k q e => by have e' : k = pb := e; have q' : some g = some k := q; injection q' with q'; omega)
       have gc := ho3.cellAt 0 (by omega)
       have hcap : n + 1 ≤ cap := by
        rcases ho3.2 with ⟨e, _⟩ | ⟨g', cap', cur, e, _, _, q, _⟩
        · cases e
        · cases e; exact q
       have hcap9 : cap ≤ 9223372036854775807 := by
        rcases ho3.2 with ⟨e, _⟩ | ⟨g', cap', cur, e, _, _, _, q, _⟩
        · cases e
        · cases e; unfold maxLen at q; omega
       simp only [strC, List.map_cons, List.getElem?_cons_zero] at gc
       have gl := World.block_lt_of_cell? _ _ gc
       have hrow3 : RowS (fun b => b < T + 1) w3 (.slice (some ⟨g, 0, none⟩) (n + 1) cap) (x :: r) := by
        have e : (x :: r).length = n + 1 := by rw [List.length_cons, HX.out.2.2.2.1]
        refine RowS.of_own ?_ (fun b q => q)
        rw [e]
        exact ho3
       have H3 := Lib.hid (And.intro hrow3 (And.intro h3 (And.intro (f3.blk H2.out.2.2.1 (fun q => by have q' : T = pb := q; omega)) (H2.out.2.2.2.comp f3))))
       have HE := Lib.hid (HX.out.2.2.2.2.1 w3 s2 hs20 h3)
       have HKg : Hid (∀ w', Fr Nil w3 w' → w'.cell? ⟨g, 0, none⟩ = some (.string ⟨x.toArray⟩)) := Lib.hid (fun w' f => f.cell gc (fun q => q))
       have hgp : ¬ g = pb := by omega
       have hgT2 : ¬ g = T := by omega
       clear hrow3 h3 f3 ho3
       have hexs : ∀ w', Fr Nil w3 w' → Calls Tryz.prog 76 #[.pointer (some ⟨pb, 0, none⟩)] w' (QEnds pb vT L dp w' (fun w'' v => EVal (fun b => b < w'.heap.size) w'' v E) s3) := fun w' f => by
        have h := HX.out.2.2.2.2.1 w' s2 hs20 (H3.out.2.1.fr f)
        rw [HE3.out.1, HE3.out.2] at h
        exact h
       have HEx := Lib.hid hexs
       clear hexs HE
       go_upto_region 3 with fail
       by_cases h30 : s3.e = 0
       · have hok : ∀ w', Fr Nil w3 w' → Calls Tryz.prog 76 #[.pointer (some ⟨pb, 0, none⟩)] w' fun e w'' => ∃ k nm fl bi a0 n0 c0 a1 n1 c1 a2 n2 c2 a3 n3 c3, e = .returned (.agg (eC k nm fl bi a0 n0 c0 a1 n1 c1 a2 n2 c2 a3 n3 c3).toArray) ∧ EAt (fun b => b < T + 1) w'' (eC k nm fl bi a0 n0 c0 a1 n1 c1 a2 n2 c2 a3 n3 c3) E ∧ QAt w'' pb vT L s3.at_ dp ∧ Fr (fun b => b = pb) w3 w'' := fun w' f => (HEx.out w' f).mono (fun e w'' q => by
          rcases q with ⟨_, v, rfl, ⟨cs, rfl, hE⟩, hq, f2⟩ | q
          · obtain ⟨k, nm, fl, bi, a0, n0, c0, a1, n1, c1, a2, n2, c2, a3, n3, c3, rfl⟩ := hE.form
            have z1 := f.size
            have z2 := H3.out.2.2.1.lt
            exact ⟨k, nm, fl, bi, a0, n0, c0, a1, n1, c1, a2, n2, c2, a3, n3, c3, rfl, hE.mono (fun b _ q => by omega), hq, (Fr.of_nil f).comp f2⟩
          · exact absurd h30 q.1)
         have HOk := Lib.hid hok
         have HK4 : Hid (∀ w', Fr (fun b => b = pb ∨ b = T) w3 w' → w'.cell? ⟨g, 0, none⟩ = some (.string ⟨x.toArray⟩)) := Lib.hid (fun w' f => f.cell gc (fun q => q.elim (fun q => hgp q) (fun q => hgT2 q)))
         clear hok
         by_cases hc1 : cap = 1
         · subst hc1
           obtain rfl : n = 0 := by omega
           have hS0 := HK4.out w3 (Fr.refl _ _)
           go_region_held3 (fun w' => w'.cell? ⟨g, 0, none⟩ = some (.string ⟨x.toArray⟩)) (with_reducible refine HK4.out _ ?_; (first | exact HG4.out | (refine HG4.out.comp ?_; (repeat (first | (with_reducible exact Fr.refl _ _) | (with_reducible refine Fr.drew ?_) | (with_reducible refine Fr.set ?_ _ _ (fun _ => .inr rfl)))); done) | (refine Fr.of_nil ?_; (exact frA); done))) (first
            | (go_at_call 76; refine (HOk.out _ (by first | assumption | exact frA)).mono ?_; rintro rr w4 ⟨k, nm, fl, bi, a0, n0, c0, a1, n1, c1, a2, n2, c2, a3, n3, c3, rfl, hE4, h4, f4⟩; unfold eC; have HG4 : Hid (Fr (fun b => b = pb ∨ b = T) w3 w4) := Lib.hid (f4.mono (fun b _ q => .inl q)); have bT4 := f4.blk H3.out.2.2.1 (fun q => by have q' : T = pb := q; omega); have y0 := bT4.cell 0; have y1 := bT4.cell 1; have y2 := bT4.cell 2; have y3 := bT4.cell 3; have y4 := bT4.cell 4; have y5 := bT4.cell 5; have y6 := bT4.cell 6; have y7 := bT4.cell 7; have y8 := bT4.cell 8; have y9 := bT4.cell 9; simp at y0 y1 y2 y3 y4 y5 y6 y7 y8 y9; have yf := bT4.free; have yl := bT4.lt; have H4 := Lib.hid (And.intro hE4 (And.intro h4 (And.intro (RowS.fr H3.out.1 f4 (fun b q => by have q' : b = pb := q; show b < T + 1; omega)) (H3.out.2.2.2.comp f4)))); clear hE4 h4 f4 bT4))
           all_goals
            have fin : Hid (∀ wf, Fr (fun b => b = T) w4 wf → QEnds pb vT L dp w (fun w' v => BVal (fun b => b < w.heap.size) w' v (.mk x r E)) s3 (.returned (.agg (.string ⟨x.toArray⟩ :: .slice (some ⟨g, 0, none⟩) 0 0 :: eC k nm fl bi a0 n0 c0 a1 n1 c1 a2 n2 c2 a3 n3 c3).toArray)) wf) := Lib.hid (fun wf fz => by
             have hne : ¬ pb = T := by omega
             have FF : Fr (fun b => b = pb) w wf := H4.out.2.2.2.trans fz (fun b hb q => by have q' : b = T := q; omega)
             refine .inl ⟨h30, _, rfl, ⟨_, _, rfl, ?_, (H4.out.1.fr fz (fun b q => by have q' : b = T := q; show b < T + 1; omega)).mono (fun b _ q => by have q' : b < w.heap.size := q; omega)⟩, ⟨fz.blk H4.out.2.1.blk hne, HX.out.2.2.2.2.2.toks.fr FF (fun _ q => q), H4.out.2.1.le, H4.out.2.1.sz⟩, FF⟩
             have q4 := RowS.fr H4.out.2.2.1 fz (fun b q => by have q' : b = T := q; show b < T + 1; omega)
             have el : (x :: r).length = 0 + 1 := by rw [List.length_cons, HX.out.2.2.2.1]
             have q5 : RowC (fun b => b < T + 1) wf (.slice (some ⟨g, 0, none⟩) (0 + 1) 1) (0 + 1) 1 (fun i => [.string ⟨((x :: r).getD i []).toArray⟩]) := by
              have h := q4
              unfold RowS at h
              rw [el] at h
              exact h
             have q6 := (RowC.tail q5 (some ⟨g, 0, none⟩) (fun hz => absurd hz (Nat.lt_irrefl 0))).mono (Y := fun b => b < w.heap.size) (by decide) (fun b _ q => by have q' : b < w.heap.size := q; omega)
             show RowC _ _ _ r.length 1 _
             rw [HX.out.2.2.2.1]
             exact q6.congr (fun i hi => rfl))
            go_wp2
            (try simp only [Exit.inBlock, Exit.then])
            refine bodyPost_ret (v := .agg (.string ⟨x.toArray⟩ :: .slice (some ⟨g, 0, none⟩) 0 0 :: eC k nm fl bi a0 n0 c0 a1 n1 c1 a2 n2 c2 a3 n3 c3).toArray) (by simp [results, Tryz.results40, go_sem, eC, *]) rfl ?_
            exact fin.out _ (by exact frG)
         · have i3 : (1 : Int) ≤ (n : Int) + 1 := by omega
           have i4 : (n : Int) + 1 ≤ (cap : Int) := by omega
           have i5 : (1 : Int) ≤ (cap : Int) := by omega
           have i6 : ¬ cap - 1 = 0 := by omega
           have hS0 := HK4.out w3 (Fr.refl _ _)
           go_region_held3 (fun w' => w'.cell? ⟨g, 0, none⟩ = some (.string ⟨x.toArray⟩)) (with_reducible refine HK4.out _ ?_; (first | exact HG4.out | (refine HG4.out.comp ?_; (repeat (first | (with_reducible exact Fr.refl _ _) | (with_reducible refine Fr.drew ?_) | (with_reducible refine Fr.set ?_ _ _ (fun _ => .inr rfl)))); done) | (refine Fr.of_nil ?_; (exact frA); done))) (first
            | (go_at_call 76; refine (HOk.out _ (by first | assumption | exact frA)).mono ?_; rintro rr w4 ⟨k, nm, fl, bi, a0, n0, c0, a1, n1, c1, a2, n2, c2, a3, n3, c3, rfl, hE4, h4, f4⟩; unfold eC; have HG4 : Hid (Fr (fun b => b = pb ∨ b = T) w3 w4) := Lib.hid (f4.mono (fun b _ q => .inl q)); have bT4 := f4.blk H3.out.2.2.1 (fun q => by have q' : T = pb := q; omega); have y0 := bT4.cell 0; have y1 := bT4.cell 1; have y2 := bT4.cell 2; have y3 := bT4.cell 3; have y4 := bT4.cell 4; have y5 := bT4.cell 5; have y6 := bT4.cell 6; have y7 := bT4.cell 7; have y8 := bT4.cell 8; have y9 := bT4.cell 9; simp at y0 y1 y2 y3 y4 y5 y6 y7 y8 y9; have yf := bT4.free; have yl := bT4.lt; have H4 := Lib.hid (And.intro hE4 (And.intro h4 (And.intro (RowS.fr H3.out.1 f4 (fun b q => by have q' : b = pb := q; show b < T + 1; omega)) (H3.out.2.2.2.comp f4)))); clear hE4 h4 f4 bT4))
           all_goals
            have fin : Hid (∀ wf, Fr (fun b => b = T) w4 wf → QEnds pb vT L dp w (fun w' v => BVal (fun b => b < w.heap.size) w' v (.mk x r E)) s3 (.returned (.agg (.string ⟨x.toArray⟩ :: .slice (some ⟨g, 1, none⟩) n (cap - 1) :: eC k nm fl bi a0 n0 c0 a1 n1 c1 a2 n2 c2 a3 n3 c3).toArray)) wf) := Lib.hid (fun wf fz => by
             have hne : ¬ pb = T := by omega
             have FF : Fr (fun b => b = pb) w wf := H4.out.2.2.2.trans fz (fun b hb q => by have q' : b = T := q; omega)
             refine .inl ⟨h30, _, rfl, ⟨_, _, rfl, ?_, (H4.out.1.fr fz (fun b q => by have q' : b = T := q; show b < T + 1; omega)).mono (fun b _ q => by have q' : b < w.heap.size := q; omega)⟩, ⟨fz.blk H4.out.2.1.blk hne, HX.out.2.2.2.2.2.toks.fr FF (fun _ q => q), H4.out.2.1.le, H4.out.2.1.sz⟩, FF⟩
             have q4 := RowS.fr H4.out.2.2.1 fz (fun b q => by have q' : b = T := q; show b < T + 1; omega)
             have el : (x :: r).length = n + 1 := by rw [List.length_cons, HX.out.2.2.2.1]
             have q5 : RowC (fun b => b < T + 1) wf (.slice (some ⟨g, 0, none⟩) (n + 1) cap) (n + 1) 1 (fun i => [.string ⟨((x :: r).getD i []).toArray⟩]) := by
              have h := q4
              unfold RowS at h
              rw [el] at h
              exact h
             have q6 := (RowC.tail q5 (some ⟨g, 1, none⟩) (fun hz => rfl)).mono (Y := fun b => b < w.heap.size) (by decide) (fun b _ q => by have q' : b < w.heap.size := q; omega)
             show RowC _ _ _ r.length 1 _
             rw [HX.out.2.2.2.1]
             exact q6.congr (fun i hi => rfl))
            go_wp2
            (try simp only [Exit.inBlock, Exit.then])
            refine bodyPost_ret (v := .agg (.string ⟨x.toArray⟩ :: .slice (some ⟨g, 1, none⟩) n (cap - 1) :: eC k nm fl bi a0 n0 c0 a1 n1 c1 a2 n2 c2 a3 n3 c3).toArray) (by simp [results, Tryz.results40, go_sem, eC, *]) rfl ?_
            exact fin.out _ (by exact frG)
       · have hbad : ∀ w', Fr Nil w3 w' → Calls Tryz.prog 76 #[.pointer (some ⟨pb, 0, none⟩)] w' (Broke pb vT w' s3) := fun w' f => (HEx.out w' f).mono (fun e w'' q => q.resolve_left (fun z => h30 z.1))
         have HBad := Lib.hid hbad
         clear hbad
         by_cases hc1 : cap = 1
         · subst hc1
           obtain rfl : n = 0 := by omega
           refine wp_region_held_drew (S := fun w' => w'.cell? ⟨g, 0, none⟩ = some (.string ⟨x.toArray⟩)) (by kernel_rfl) (HKg.out _ (by exact frA)) (fun hHeld => ?_)
           obtain ⟨W5, hW5⟩ : ∃ W, w3.drew = W := ⟨_, rfl⟩
           have f5 : Fr Nil w3 W5 := by rw [← hW5]; exact frA
           rw [hW5] at hHeld ⊢
           clear hW5
           refine held_take (i := 0) (v := ?_) rfl (by kernel_rfl) (by kernel_rfl) (by kernel_rfl) (fun _ _ _ h => h) (by rfl) (by assumption) ?_ ?_
           rotate_left
           · (intro w hSw; (try dsimp only at hSw); go_simp; try with_reducible rfl)
           try simp only [Act.put, List.setIfInBounds_toArray, List.set_cons_zero, List.set_cons_succ]
           refine held_take (i := 1) (v := ?_) rfl (by kernel_rfl) (by kernel_rfl) (by kernel_rfl) (fun _ _ _ h => h) (by rfl) (by assumption) ?_ ?_
           rotate_left
           · (intro w hSw; (try dsimp only at hSw); go_simp; try with_reducible rfl)
           try simp only [Act.put, List.setIfInBounds_toArray, List.set_cons_zero, List.set_cons_succ]
           refine held_take (i := 2) (v := ?_) rfl (by kernel_rfl) (by kernel_rfl) (by kernel_rfl) (fun _ _ _ h => h) (by rfl) (by assumption) ?_ ?_
           rotate_left
           · (intro w hSw; (try dsimp only at hSw); go_simp; try with_reducible rfl)
           try simp only [Act.put, List.setIfInBounds_toArray, List.set_cons_zero, List.set_cons_succ]
           refine held_take (i := 3) (v := ?_) rfl (by kernel_rfl) (by kernel_rfl) (by kernel_rfl) (fun _ _ _ h => h) (by rfl) (by assumption) ?_ ?_
           rotate_left
           · (intro w hSw; (try dsimp only at hSw); go_simp; try with_reducible rfl)
           try simp only [Act.put, List.setIfInBounds_toArray, List.set_cons_zero, List.set_cons_succ]
           refine held_take (i := 4) (v := ?_) rfl (by kernel_rfl) (by kernel_rfl) (by kernel_rfl) (fun _ _ _ h => h) (by rfl) (by assumption) ?_ ?_
           rotate_left
           · (intro w hSw; (try dsimp only at hSw); go_simp; try with_reducible rfl)
           try simp only [Act.put, List.setIfInBounds_toArray, List.set_cons_zero, List.set_cons_succ]
           refine held_take (i := 5) (v := ?_) rfl (by kernel_rfl) (by kernel_rfl) (by kernel_rfl) (fun _ _ _ h => h) (by rfl) (by assumption) ?_ ?_
           rotate_left
           · (intro w hSw; (try dsimp only at hSw); go_simp; try with_reducible rfl)
           try simp only [Act.put, List.setIfInBounds_toArray, List.set_cons_zero, List.set_cons_succ]
           refine held_one (i := 6) rfl (by kernel_rfl) (fun Kc hKc => ?_)
           go_simp
           refine (HBad.out _ f5).mono ?_
           rintro r w6 hbr
           have hb2 := hbr.back (H3.out.2.2.2.via f5)
           obtain ⟨_, rfl, _⟩ := hbr
           exact ⟨rfl, .inr hb2⟩
         · have i3 : (1 : Int) ≤ (n : Int) + 1 := by omega
           have i4 : (n : Int) + 1 ≤ (cap : Int) := by omega
           have i5 : (1 : Int) ≤ (cap : Int) := by omega
           have i6 : ¬ cap - 1 = 0 := by omega
           refine wp_region_held_drew (S := fun w' => w'.cell? ⟨g, 0, none⟩ = some (.string ⟨x.toArray⟩)) (by kernel_rfl) (HKg.out _ (by exact frA)) (fun hHeld => ?_)
           obtain ⟨W5, hW5⟩ : ∃ W, w3.drew = W := ⟨_, rfl⟩
           have f5 : Fr Nil w3 W5 := by rw [← hW5]; exact frA
           rw [hW5] at hHeld ⊢
           clear hW5
           refine held_take (i := 0) (v := ?_) rfl (by kernel_rfl) (by kernel_rfl) (by kernel_rfl) (fun _ _ _ h => h) (by rfl) (by assumption) ?_ ?_
           rotate_left
           · (intro w hSw; (try dsimp only at hSw); go_simp; try with_reducible rfl)
           try simp only [Act.put, List.setIfInBounds_toArray, List.set_cons_zero, List.set_cons_succ]
           refine held_take (i := 1) (v := ?_) rfl (by kernel_rfl) (by kernel_rfl) (by kernel_rfl) (fun _ _ _ h => h) (by rfl) (by assumption) ?_ ?_
           rotate_left
           · (intro w hSw; (try dsimp only at hSw); go_simp; try with_reducible rfl)
           try simp only [Act.put, List.setIfInBounds_toArray, List.set_cons_zero, List.set_cons_succ]
           refine held_take (i := 2) (v := ?_) rfl (by kernel_rfl) (by kernel_rfl) (by kernel_rfl) (fun _ _ _ h => h) (by rfl) (by assumption) ?_ ?_
           rotate_left
           · (intro w hSw; (try dsimp only at hSw); go_simp; try with_reducible rfl)
           try simp only [Act.put, List.setIfInBounds_toArray, List.set_cons_zero, List.set_cons_succ]
           refine held_take (i := 3) (v := ?_) rfl (by kernel_rfl) (by kernel_rfl) (by kernel_rfl) (fun _ _ _ h => h) (by rfl) (by assumption) ?_ ?_
           rotate_left
           · (intro w hSw; (try dsimp only at hSw); go_simp; try with_reducible rfl)
           try simp only [Act.put, List.setIfInBounds_toArray, List.set_cons_zero, List.set_cons_succ]
           refine held_take (i := 4) (v := ?_) rfl (by kernel_rfl) (by kernel_rfl) (by kernel_rfl) (fun _ _ _ h => h) (by rfl) (by assumption) ?_ ?_
           rotate_left
           · (intro w hSw; (try dsimp only at hSw); go_simp; try with_reducible rfl)
           try simp only [Act.put, List.setIfInBounds_toArray, List.set_cons_zero, List.set_cons_succ]
           refine held_take (i := 5) (v := ?_) rfl (by kernel_rfl) (by kernel_rfl) (by kernel_rfl) (fun _ _ _ h => h) (by rfl) (by assumption) ?_ ?_
           rotate_left
           · (intro w hSw; (try dsimp only at hSw); go_simp; try with_reducible rfl)
           try simp only [Act.put, List.setIfInBounds_toArray, List.set_cons_zero, List.set_cons_succ]
           refine held_one (i := 6) rfl (by kernel_rfl) (fun Kc hKc => ?_)
           go_simp
           refine (HBad.out _ f5).mono ?_
           rintro r w6 hbr
           have hb2 := hbr.back (H3.out.2.2.2.via f5)
           obtain ⟨_, rfl, _⟩ := hbr
           exact ⟨rfl, .inr hb2⟩
     · have hb2 := hbr.back H2.out.2.2.2
       obtain ⟨hne, rfl, _⟩ := hbr
       have e3 : s3 = s2 := by rw [← HE3.out.2, expr_stop hne]
       refine ⟨rfl, .inr ?_⟩
       rw [e3]
       exact hb2
   · exact absurd HX.out.2.2.1 hbr.1
 · have e1 := names_none hs hk
   have hne := fault_ne (L := L) (e := 3) (by decide) s
   rw [e1] at hSm
   rw [e1, need_stop hne, expr_stop hne]
   have HX := Lib.hid (And.intro hSm hne)
   have HF1 := Lib.hid f1
   clear h hs hk e1 hSm hne bT1 hex eb f1
   go_enter Tryz.func40, Tryz.ntmps40
   go_upto_region 1 with fail
   try rw [hT]
   try rw [hW1]
   clear hW1 hT
   go_wp2_with fail
   refine HX.out.1.mono ?_
   rintro e w1 (⟨q, _⟩ | hbr)
   · exact absurd q HX.out.2
   · have hb2 := hbr.back (Fr.of_nil HF1.out)
     obtain ⟨_, rfl, _⟩ := hbr
     exact ⟨rfl, .inr hb2⟩
end
section
variable {w : World} {pb : Nat} {vT : Value} {L : List TokV} {s : PS} {dp : Int} {d : Nat}
theorem qlam_any (hex : QReads pb vT L d dp) (hs : s.e = 0) (h : QAt w pb vT L (s.at_ + 1) dp) :
 Calls Tryz.prog 106 #[.pointer (some ⟨pb, 0, none⟩)] w (QEnds pb vT L dp w (fun w' v => EVal (fun b => b < w.heap.size) w' v (lamF L (exprF L d) s).1) (lamF L (exprF L d) s).2) := by
 obtain ⟨T, hT⟩ : ∃ T, w.heap.size = T := ⟨_, rfl⟩
 obtain ⟨W1, hW1⟩ : ∃ W1, w.alloc (.cells #[.int .i64 0, .string ⟨#[]⟩, .bool false, .int .u64 0, .slice none 0 0, .slice none 0 0, .slice none 0 0, .slice none 0 0] 49) = W1 := ⟨_, rfl⟩
 have f1 : Fr Nil w W1 := by rw [← hW1]; exact frA
 have bT1 : Blk W1 T #[.int .i64 0, .string ⟨#[]⟩, .bool false, .int .u64 0, .slice none 0 0, .slice none 0 0, .slice none 0 0, .slice none 0 0] 49 := by rw [← hW1, ← hT]; exact Blk.new _ _ _
 have hs1 : W1.heap.size = T + 1 := by rw [← hW1, ← hT]; simp
 have hs1a : T + 1 ≤ W1.heap.size := Nat.le_of_eq hs1.symm
 have hpT : pb < T := by rw [← hT]; exact h.blk.lt
 obtain ⟨t, ht⟩ : ∃ t : PS, { s with at_ := s.at_ + 1 } = t := ⟨_, rfl⟩
 have hte : t.e = 0 := by rw [← ht]; exact hs
 have hta : QAt w pb vT L t.at_ dp := by rw [← ht]; exact h
 have eb : lamF L (exprF L d) s = (.mk 8 [] false 0 (namesF L (fuelP L) true [] t).1 [(exprF L d (needF L [45, 62] (namesF L (fuelP L) true [] t).2)).1] [] [], (exprF L d (needF L [45, 62] (namesF L (fuelP L) true [] t).2)).2) := by rw [← ht]; rfl
 rw [eb]
 have hSm := qsome_any hte (hta.fr f1)
 clear h hs eb ht
 by_cases hk : kindP L t = 1
 · have hne := names_e (L := L) (fuelP L) [] { t with at_ := t.at_ + 1 } hte
   rw [names_some hte hk] at hSm ⊢
   obtain ⟨x, hx⟩ : ∃ x, (peekT L t.at_).text = x := ⟨_, rfl⟩
   obtain ⟨⟨r, s1⟩, hr⟩ : ∃ R, namesF L (fuelP L) false [] { t with at_ := t.at_ + 1 } = R := ⟨_, rfl⟩
   rw [hx, hr] at hSm
   rw [hx, hr]
   rw [hr] at hne
   simp only at hne hSm
   show Calls _ _ _ _ (QEnds pb vT L dp w (fun w' v => EVal (fun b => b < w.heap.size) w' v (.mk 8 [] false 0 (x :: r) [(exprF L d (needF L [45, 62] s1)).1] [] [])) (exprF L d (needF L [45, 62] s1)).2)
   obtain ⟨n, hn⟩ : ∃ n, r.length = n := ⟨_, rfl⟩
   rw [List.length_cons, hn, hs1] at hSm
   obtain ⟨s2, hs2⟩ : ∃ s2, needF L [45, 62] s1 = s2 := ⟨_, rfl⟩
   have hWn := fun w' (h' : QAt w' pb vT L s1.at_ dp) => qwant_any [45, 62] hne h'
   rw [hs2] at hWn ⊢
   obtain ⟨E, hE⟩ : ∃ E, (exprF L d s2).1 = E := ⟨_, rfl⟩
   obtain ⟨s3, hs3⟩ : ∃ s3, (exprF L d s2).2 = s3 := ⟨_, rfl⟩
   rw [hE, hs3]
   have HX := Lib.hid (And.intro hSm (And.intro hWn (And.intro hne (And.intro hn (And.intro hex hta)))))
   have HE3 := Lib.hid (And.intro hE hs3)
   clear hE hs3
   have H1 := Lib.hid (And.intro f1 bT1)
   clear hSm hWn hne hn hs2 hr hx hk hex f1 bT1 hta hte
   have hwT1 : w.heap.size ≤ T := Nat.le_of_eq hT
   go_enter Tryz.func106, Tryz.ntmps106
   go_upto_region 1 with fail
   try rw [hT]
   try rw [hW1]
   clear hW1 hs1 hT
   go_wp2_with fail
   refine HX.out.1.mono ?_
   rintro e w2 (⟨_, v2, rfl, ho2, h2, f2⟩ | hbr)
   · obtain ⟨g, cap, rfl⟩ := Joins.ownsRow_form ho2 (by omega)
     have hgT := (ho2.lt g rfl).1
     have s2z := f2.size
     have H2 := Lib.hid (And.intro ho2 (And.intro h2 (And.intro (f2.blk H1.out.2 (fun q => by have q' : T = pb := q; omega)) ((Fr.of_nil H1.out.1).comp f2))))
     clear ho2 h2 f2
     go_wp2_with fail
     refine (HX.out.2.1 _ H2.out.2.1).mono ?_
     rintro e w3 (⟨hs20, v3, rfl, rfl, h3, f3⟩ | hbr)
     · have ho3 := owns_frS H2.out.1 f3 (fun k q e => by have e' : k = pb := e; have q' : some g = some k := q; injection q' with q'; omega)
       have hrow3 : RowS (fun b => b < T + 1) w3 (.slice (some ⟨g, 0, none⟩) (n + 1) cap) (x :: r) := by
        have e : (x :: r).length = n + 1 := by rw [List.length_cons, HX.out.2.2.2.1]
        refine RowS.of_own ?_ (fun b q => q)
        rw [e]
        exact ho3
       have H3 := Lib.hid (And.intro hrow3 (And.intro h3 (And.intro (f3.blk H2.out.2.2.1 (fun q => by have q' : T = pb := q; omega)) (H2.out.2.2.2.comp f3))))
       have hz3 := H3.out.2.2.1.lt
       clear hrow3 h3 f3 ho3
       have hexs := HX.out.2.2.2.2.1 w3 s2 hs20 H3.out.2.1
       rw [HE3.out.1, HE3.out.2] at hexs
       have HEx := Lib.hid hexs
       clear hexs
       go_wp2_with fail
       refine HEx.out.mono ?_
       rintro e w4 (⟨hs30, v4, rfl, ⟨cs, rfl, hE4⟩, h4, f4⟩ | hbr)
       · obtain ⟨k, nm, fl, bi, a0, n0, c0, a1, n1, c1, a2, n2, c2, a3, n3, c3, rfl⟩ := hE4.form
         unfold eC
         have s4 := f4.size
         have bT4 := f4.blk H3.out.2.2.1 (fun q => by have q' : T = pb := q; omega)
         have hE4' : EAt (fun b => b < T + 1) w4 (eC k nm fl bi a0 n0 c0 a1 n1 c1 a2 n2 c2 a3 n3 c3) E := hE4.mono (fun b _ q => by omega)
         obtain ⟨Tk, hTk⟩ : ∃ Tk, w4.heap.size = Tk := ⟨_, rfl⟩
         have y0 := bT4.cell 0
         have y1 := bT4.cell 1
         have y2 := bT4.cell 2
         have y3 := bT4.cell 3
         have y4 := bT4.cell 4
         have y5 := bT4.cell 5
         have y6 := bT4.cell 6
         have y7 := bT4.cell 7
         simp at y0 y1 y2 y3 y4 y5 y6 y7
         have yf := bT4.free
         have yl := bT4.lt
         have hTTk : T < Tk := by rw [← hTk]; exact yl
         have H4 := Lib.hid (And.intro hE4' (And.intro h4 (And.intro (RowS.fr H3.out.1 f4 (fun b q => by have q' : b = pb := q; show b < T + 1; omega)) (H3.out.2.2.2.comp f4))))
         have fin : Hid (∀ wf, Fr (fun b => b = T) w4 wf → Blk wf Tk #[.int .i64 (k : Int), .string nm, .bool fl, .int .u64 (bi : Int), .slice a0 n0 c0, .slice a1 n1 c1, .slice a2 n2 c2, .slice a3 n3 c3] 49 → QEnds pb vT L dp w (fun w' v => EVal (fun b => b < w.heap.size) w' v (.mk 8 [] false 0 (x :: r) [E] [] [])) s3 (.returned (.agg #[.int .i64 8, .string ⟨#[]⟩, .bool false, .int .u64 0, .slice (some ⟨g, 0, none⟩) (n + 1) cap, .slice (some ⟨Tk, 0, none⟩) 1 1, .slice none 0 0, .slice none 0 0])) wf) := Lib.hid (fun wf fz bk => by
          have hne : ¬ pb = T := by omega
          have FF : Fr (fun b => b = pb) w wf := H4.out.2.2.2.trans fz (fun b hb q => by have q' : b = T := q; omega)
          refine .inl ⟨hs30, _, rfl, ⟨_, rfl, EAt.rows (kids := [E]) (alts := []) (binds := []) (params := x :: r) (kc := fun _ => eC k nm fl bi a0 n0 c0 a1 n1 c1 a2 n2 c2 a3 n3 c3) (ac := fun _ => []) (bc := fun _ => []) 8 [] ?_ (RowC.one bk rfl (by omega)) (fun i hi => ?_) .nil (fun i h => absurd h (Nat.not_lt_zero i)) .nil (fun i h => absurd h (Nat.not_lt_zero i))⟩, ⟨fz.blk H4.out.2.1.blk hne, HX.out.2.2.2.2.2.toks.fr FF (fun _ q => q), H4.out.2.1.le, H4.out.2.1.sz⟩, FF⟩
          · have q4 := RowS.fr H4.out.2.2.1 fz (fun b q => by have q' : b = T := q; show b < T + 1; omega)
            exact RowC.mono q4 (by decide) (fun b _ q => by have q' : b < w.heap.size := q; omega)
          · obtain rfl : i = 0 := by simp at hi; exact hi
            exact (H4.out.1.fr fz (fun b q => by have q' : b = T := q; show b < T + 1; omega)).mono (fun b _ q => by have q' : b < w.heap.size := q; omega))
         clear hE4 hE4' h4 f4 bT4
         go_wp2
         (try simp only [Exit.inBlock, Exit.then])
         refine bodyPost_ret (v := .agg #[.int .i64 8, .string ⟨#[]⟩, .bool false, .int .u64 0, .slice (some ⟨g, 0, none⟩) (n + 1) cap, .slice (some ⟨Tk, 0, none⟩) 1 1, .slice none 0 0, .slice none 0 0]) (by simp [results, Tryz.results106, go_sem, *]) rfl ?_
         exact fin.out _ (by exact frG) (by rw [← hTk]; exact blk0)
       · have hb2 := hbr.back H3.out.2.2.2
         obtain ⟨_, rfl, _⟩ := hbr
         exact ⟨rfl, .inr hb2⟩
     · have hb2 := hbr.back H2.out.2.2.2
       obtain ⟨hne, rfl, _⟩ := hbr
       have e3 : s3 = s2 := by rw [← HE3.out.2, expr_stop hne]
       refine ⟨rfl, .inr ?_⟩
       rw [e3]
       exact hb2
   · exact absurd HX.out.2.2.1 hbr.1
 · have e1 := names_none hte hk
   have hne := fault_ne (L := L) (e := 3) (by decide) t
   rw [e1] at hSm
   rw [e1, need_stop hne, expr_stop hne]
   have HX := Lib.hid (And.intro hSm hne)
   have HF1 := Lib.hid f1
   clear hte hta hk e1 hSm hne bT1 hex f1
   go_enter Tryz.func106, Tryz.ntmps106
   go_upto_region 1 with fail
   try rw [hT]
   try rw [hW1]
   clear hW1 hT
   go_wp2_with fail
   refine HX.out.1.mono ?_
   rintro e w1 (⟨q, _⟩ | hbr)
   · exact absurd q HX.out.2
   · have hb2 := hbr.back (Fr.of_nil HF1.out)
     obtain ⟨_, rfl, _⟩ := hbr
     exact ⟨rfl, .inr hb2⟩
end
def atomF (L : List TokV) (ex : PS → TE × PS) (s : PS) : Option TE × PS :=
 if (peekT L s.at_).kind = 1 then (some (.mk 1 (peekT L s.at_).text false 0 [] [] [] []), { s with at_ := s.at_ + 1 })
 else if (peekT L s.at_).kind = 2 then (some (.mk 2 (peekT L s.at_).text false 0 [] [] [] []), { s with at_ := s.at_ + 1 })
 else if (peekT L s.at_).kind = 7 then (some (.mk 5 (peekT L s.at_).text false 0 [] [] [] []), { s with at_ := s.at_ + 1 })
 else if (peekT L s.at_).kind = 3 then (some (.mk 3 [] (peekT L s.at_).flt (peekT L s.at_).bits [] [] [] []), { s with at_ := s.at_ + 1 })
 else if seesF L [40] s = false then (none, s)
 else (some (ex { s with at_ := s.at_ + 1 }).1, needF L [41] (ex { s with at_ := s.at_ + 1 }).2)
theorem tok_peek {L : List TokV} {k : Int} {s : PS} (hs : s.e = 0) (h : (peekT L s.at_).kind = k) : tokenF L k s = (peekT L s.at_, { s with at_ := s.at_ + 1 }) := by
 unfold tokenF
 rw [if_pos ⟨hs, by rw [peek_kind]; exact h⟩]
 rfl
theorem atoms_atom {L : List TokV} {ex : PS → TE × PS} (n : Nat) (acc : List TE) (s : PS) (hs : s.e = 0) :
 atomsF L ex (n + 1) acc s = match (atomF L ex s).1 with
  | none => (acc, s)
  | some t => atomsF L ex n (acc ++ [t]) (atomF L ex s).2 := by
 conv => lhs; unfold atomsF
 unfold atomF
 rw [if_neg (by simp [hs])]
 simp only [peek_kind]
 by_cases h1 : (peekT L s.at_).kind = 1
 · rw [if_pos h1, if_pos h1, tok_peek hs h1]
 rw [if_neg h1, if_neg h1]
 by_cases h2 : (peekT L s.at_).kind = 2
 · rw [if_pos h2, if_pos h2, tok_peek hs h2]
 rw [if_neg h2, if_neg h2]
 by_cases h7 : (peekT L s.at_).kind = 7
 · rw [if_pos h7, if_pos h7, tok_peek hs h7]
 rw [if_neg h7, if_neg h7]
 by_cases h3 : (peekT L s.at_).kind = 3
 · rw [if_pos h3, if_pos h3, tok_peek hs h3]
 rw [if_neg h3, if_neg h3]
 by_cases hq : seesF L [40] s = false
 · rw [if_pos hq, if_pos hq]
 · rw [if_neg hq, if_neg hq]
def QAtom (w : World) (r : Option TE) (w' : World) (v : Value) : Prop :=
 match r with
 | none => v = .tuple #[.agg #[.int .i64 0, .string ⟨#[]⟩, .bool false, .int .u64 0, .slice none 0 0, .slice none 0 0, .slice none 0 0, .slice none 0 0], .bool false]
 | some t => ∃ cs : List Value, v = .tuple #[.agg cs.toArray, .bool true] ∧ EAt (fun b => b < w.heap.size) w' cs t
section
variable {w : World} {pb : Nat} {vT : Value} {L : List TokV} {s : PS} {dp : Int} {d : Nat}
theorem qatom_any (hex : QReads pb vT L d dp) (hs : s.e = 0) (h : QAt w pb vT L s.at_ dp) :
 Calls Tryz.prog 139 #[.pointer (some ⟨pb, 0, none⟩)] w (QEnds pb vT L dp w (QAtom w (atomF L (exprF L d) s).1) (atomF L (exprF L d) s).2) := by
 obtain ⟨T, hT⟩ : ∃ T, w.heap.size = T := ⟨_, rfl⟩
 obtain ⟨W1, hW1⟩ : ∃ W1, w.alloc (.cells #[.int .i64 0, .string ⟨#[]⟩, .bool false, .int .u64 0, .slice none 0 0, .slice none 0 0, .slice none 0 0, .slice none 0 0] 49) = W1 := ⟨_, rfl⟩
 have f1 : Fr Nil w W1 := by rw [← hW1]; exact frA
 have bT1 : Blk W1 T #[.int .i64 0, .string ⟨#[]⟩, .bool false, .int .u64 0, .slice none 0 0, .slice none 0 0, .slice none 0 0, .slice none 0 0] 49 := by rw [← hW1, ← hT]; exact Blk.new _ _ _
 have hpT : pb < T := by rw [← hT]; exact h.blk.lt
 have hp := fun w' (f : Fr Nil W1 w') => qpeek_any (h.fr (f1.comp f))
 have hsz := h.sz
 have hle := h.le
 obtain ⟨⟨tk, tx, tf, tb, tl⟩, htk⟩ : ∃ t, peekT L s.at_ = t := ⟨_, rfl⟩
 rw [htk] at hp
 have HP := Lib.hid hp
 have H1 := Lib.hid (And.intro f1 (And.intro bT1 (And.intro h (And.intro hT hs))))
 have HI := Lib.hid (fun w' (f : Fr Nil w w') => qis_any [40] hs (h.fr f))
 have HX := Lib.hid hex
 by_cases hx1 : tk = 1
 · subst hx1
   have hlt : s.at_ < L.length := peek_lt (k := 1) (by rw [htk]) (by decide)
   have e1 : atomF L (exprF L d) s = (some (.mk 1 tx false 0 [] [] [] []), { s with at_ := s.at_ + 1 }) := by unfold atomF; rw [htk]; rfl
   rw [e1]
   have i3 : IntKind.i64.wrap ((s.at_ : Int) + 1) = (s.at_ : Int) + 1 := by rw [IntKind.wrap_i64]; omega
   have HL := Lib.hid hlt
   clear hp f1 bT1 h htk hle e1 hlt hex HI HX
   go_enter Tryz.func139, Tryz.ntmps139
   go_upto_region 1 with fail
   try rw [hT]
   try rw [hW1]
   clear hT hW1
   go_wp2_with fail
   refine (HP.out W1 (Fr.refl _ _)).mono ?_
   rintro e w1 ⟨rfl, f2⟩
   unfold tokV
   obtain ⟨Tk, hTk⟩ : ∃ Tk, w1.heap.size = Tk := ⟨_, rfl⟩
   obtain ⟨w2, hw2⟩ : ∃ w2, w1.alloc (.cells #[.int .i64 1, .string ⟨tx.toArray⟩, .bool tf, .int .u64 (tb : Int), .int .i64 (tl : Int)] 41) = w2 := ⟨_, rfl⟩
   have f2 : Fr Nil W1 w2 := by rw [← hw2]; exact frA
   have bk2 : Blk w2 Tk #[.int .i64 1, .string ⟨tx.toArray⟩, .bool tf, .int .u64 (tb : Int), .int .i64 (tl : Int)] 41 := by rw [← hw2, ← hTk]; exact Blk.new _ _ _
   go_upto_region 2 with fail
   try rw [hTk]
   try rw [hw2]
   have sT : T < Tk := by rw [← hTk]; exact (Fr.blk (by assumption) H1.out.2.1 (fun q => q)).lt
   clear hTk hw2
   have F2 := H1.out.1.comp f2
   have bT2 := f2.blk H1.out.2.1 (fun q => q)
   have bp2 := F2.blk H1.out.2.2.1.blk (fun q => q)
   have HB := Lib.hid (And.intro bT2 (And.intro bp2 (And.intro F2 bk2)))
   have y0 := bk2.cell 0
   have y1 := bk2.cell 1
   have y2 := bk2.cell 2
   have y3 := bk2.cell 3
   have y4 := bk2.cell 4
   simp at y0 y1 y2 y3 y4
   have p0 := bp2.cell 0
   have p1 := bp2.cell 1
   have p2 := bp2.cell 2
   simp at p0 p1 p2
   have pf := bp2.free
   have pl := bp2.lt
   have z0 := bT2.cell 0
   have z1 := bT2.cell 1
   have z2 := bT2.cell 2
   have z3 := bT2.cell 3
   have z4 := bT2.cell 4
   have z5 := bT2.cell 5
   have z6 := bT2.cell 6
   have z7 := bT2.cell 7
   simp at z0 z1 z2 z3 z4 z5 z6 z7
   have yf := bT2.free
   have yl := bT2.lt
   have hne : pb ≠ T := by omega
   have hne2 : T ≠ pb := by omega
   have hne3 : ¬ Tk = pb := by omega
   have hne4 : ¬ Tk = T := by omega
   have hne5 : ¬ pb = Tk := by omega
   have hne6 : ¬ T = Tk := by omega
   clear f2 bT2 bp2 F2 bk2
   have F2 := HB.out.2.2.1
   have hwT : w.heap.size ≤ T := Nat.le_of_eq H1.out.2.2.2.1
   have fin : Hid (∀ wf, Fr (fun b => b = pb ∨ b = T) w2 wf → Blk wf pb #[vT, .int .i64 ((s.at_ : Int) + 1), .int .i64 dp] 62 → QEnds pb vT L dp w (QAtom w (some (.mk 1 tx false 0 [] [] [] []))) { s with at_ := s.at_ + 1 } (.returned (.tuple #[.agg #[.int .i64 1, .string ⟨tx.toArray⟩, .bool false, .int .u64 0, .slice none 0 0, .slice none 0 0, .slice none 0 0, .slice none 0 0], .bool true])) wf) := Lib.hid (fun wf fz bp => by
    have FF : Fr (fun b => b = pb) w wf := (Fr.of_nil F2).trans fz (fun b hb q => by rcases q with q | q; exact q; omega)
    exact .inl ⟨H1.out.2.2.2.2, _, rfl, ⟨_, rfl, EAt.leaf 1 tx false 0⟩, H1.out.2.2.1.to (at' := s.at_ + 1) (dp' := dp) FF bp HL.out, FF⟩)
   go_wp2
   (try simp only [Exit.inBlock, Exit.then])
   refine bodyPost_ret (v := .tuple #[.agg #[.int .i64 1, .string ⟨tx.toArray⟩, .bool false, .int .u64 0, .slice none 0 0, .slice none 0 0, .slice none 0 0, .slice none 0 0], .bool true]) (by simp [results, Tryz.results139, go_sem, *]) rfl ?_
   refine fin.out _ (by exact frG) ?_
   · (unfold Blk; simp (disch := first | omega | (simp; done) | (simp; omega)) only [hp_drew, hp_drewN, hp_alloc, hp_other, hp_same, hp_new, upd_cells, Option.map_some, (HB.out.2.1).eq])
     simp
 by_cases hx2 : tk = 2
 · subst hx2
   have hlt : s.at_ < L.length := peek_lt (k := 2) (by rw [htk]) (by decide)
   have e1 : atomF L (exprF L d) s = (some (.mk 2 tx false 0 [] [] [] []), { s with at_ := s.at_ + 1 }) := by unfold atomF; rw [htk]; rfl
   rw [e1]
   have i3 : IntKind.i64.wrap ((s.at_ : Int) + 1) = (s.at_ : Int) + 1 := by rw [IntKind.wrap_i64]; omega
   have HL := Lib.hid hlt
   clear hp f1 bT1 h htk hle e1 hlt hex HI HX
   go_enter Tryz.func139, Tryz.ntmps139
   go_upto_region 1 with fail
   try rw [hT]
   try rw [hW1]
   clear hT hW1
   go_wp2_with fail
   refine (HP.out W1 (Fr.refl _ _)).mono ?_
   rintro e w1 ⟨rfl, f2⟩
   unfold tokV
   obtain ⟨Tk, hTk⟩ : ∃ Tk, w1.heap.size = Tk := ⟨_, rfl⟩
   obtain ⟨w2, hw2⟩ : ∃ w2, w1.alloc (.cells #[.int .i64 2, .string ⟨tx.toArray⟩, .bool tf, .int .u64 (tb : Int), .int .i64 (tl : Int)] 41) = w2 := ⟨_, rfl⟩
   have f2 : Fr Nil W1 w2 := by rw [← hw2]; exact frA
   have bk2 : Blk w2 Tk #[.int .i64 2, .string ⟨tx.toArray⟩, .bool tf, .int .u64 (tb : Int), .int .i64 (tl : Int)] 41 := by rw [← hw2, ← hTk]; exact Blk.new _ _ _
   go_upto_region 2 with fail
   try rw [hTk]
   try rw [hw2]
   have sT : T < Tk := by rw [← hTk]; exact (Fr.blk (by assumption) H1.out.2.1 (fun q => q)).lt
   clear hTk hw2
   have F2 := H1.out.1.comp f2
   have bT2 := f2.blk H1.out.2.1 (fun q => q)
   have bp2 := F2.blk H1.out.2.2.1.blk (fun q => q)
   have HB := Lib.hid (And.intro bT2 (And.intro bp2 (And.intro F2 bk2)))
   have y0 := bk2.cell 0
   have y1 := bk2.cell 1
   have y2 := bk2.cell 2
   have y3 := bk2.cell 3
   have y4 := bk2.cell 4
   simp at y0 y1 y2 y3 y4
   have p0 := bp2.cell 0
   have p1 := bp2.cell 1
   have p2 := bp2.cell 2
   simp at p0 p1 p2
   have pf := bp2.free
   have pl := bp2.lt
   have z0 := bT2.cell 0
   have z1 := bT2.cell 1
   have z2 := bT2.cell 2
   have z3 := bT2.cell 3
   have z4 := bT2.cell 4
   have z5 := bT2.cell 5
   have z6 := bT2.cell 6
   have z7 := bT2.cell 7
   simp at z0 z1 z2 z3 z4 z5 z6 z7
   have yf := bT2.free
   have yl := bT2.lt
   have hne : pb ≠ T := by omega
   have hne2 : T ≠ pb := by omega
   have hne3 : ¬ Tk = pb := by omega
   have hne4 : ¬ Tk = T := by omega
   have hne5 : ¬ pb = Tk := by omega
   have hne6 : ¬ T = Tk := by omega
   clear f2 bT2 bp2 F2 bk2
   have F2 := HB.out.2.2.1
   have hwT : w.heap.size ≤ T := Nat.le_of_eq H1.out.2.2.2.1
   have fin : Hid (∀ wf, Fr (fun b => b = pb ∨ b = T) w2 wf → Blk wf pb #[vT, .int .i64 ((s.at_ : Int) + 1), .int .i64 dp] 62 → QEnds pb vT L dp w (QAtom w (some (.mk 2 tx false 0 [] [] [] []))) { s with at_ := s.at_ + 1 } (.returned (.tuple #[.agg #[.int .i64 2, .string ⟨tx.toArray⟩, .bool false, .int .u64 0, .slice none 0 0, .slice none 0 0, .slice none 0 0, .slice none 0 0], .bool true])) wf) := Lib.hid (fun wf fz bp => by
    have FF : Fr (fun b => b = pb) w wf := (Fr.of_nil F2).trans fz (fun b hb q => by rcases q with q | q; exact q; omega)
    exact .inl ⟨H1.out.2.2.2.2, _, rfl, ⟨_, rfl, EAt.leaf 2 tx false 0⟩, H1.out.2.2.1.to (at' := s.at_ + 1) (dp' := dp) FF bp HL.out, FF⟩)
   go_wp2
   (try simp only [Exit.inBlock, Exit.then])
   refine bodyPost_ret (v := .tuple #[.agg #[.int .i64 2, .string ⟨tx.toArray⟩, .bool false, .int .u64 0, .slice none 0 0, .slice none 0 0, .slice none 0 0, .slice none 0 0], .bool true]) (by simp [results, Tryz.results139, go_sem, *]) rfl ?_
   refine fin.out _ (by exact frG) ?_
   · (unfold Blk; simp (disch := first | omega | (simp; done) | (simp; omega)) only [hp_drew, hp_drewN, hp_alloc, hp_other, hp_same, hp_new, upd_cells, Option.map_some, (HB.out.2.1).eq])
     simp
 by_cases hx7 : tk = 7
 · subst hx7
   have hlt : s.at_ < L.length := peek_lt (k := 7) (by rw [htk]) (by decide)
   have e1 : atomF L (exprF L d) s = (some (.mk 5 tx false 0 [] [] [] []), { s with at_ := s.at_ + 1 }) := by unfold atomF; rw [htk]; rfl
   rw [e1]
   have i3 : IntKind.i64.wrap ((s.at_ : Int) + 1) = (s.at_ : Int) + 1 := by rw [IntKind.wrap_i64]; omega
   have HL := Lib.hid hlt
   clear hp f1 bT1 h htk hle e1 hlt hex HI HX
   go_enter Tryz.func139, Tryz.ntmps139
   go_upto_region 1 with fail
   try rw [hT]
   try rw [hW1]
   clear hT hW1
   go_wp2_with fail
   refine (HP.out W1 (Fr.refl _ _)).mono ?_
   rintro e w1 ⟨rfl, f2⟩
   unfold tokV
   obtain ⟨Tk, hTk⟩ : ∃ Tk, w1.heap.size = Tk := ⟨_, rfl⟩
   obtain ⟨w2, hw2⟩ : ∃ w2, w1.alloc (.cells #[.int .i64 7, .string ⟨tx.toArray⟩, .bool tf, .int .u64 (tb : Int), .int .i64 (tl : Int)] 41) = w2 := ⟨_, rfl⟩
   have f2 : Fr Nil W1 w2 := by rw [← hw2]; exact frA
   have bk2 : Blk w2 Tk #[.int .i64 7, .string ⟨tx.toArray⟩, .bool tf, .int .u64 (tb : Int), .int .i64 (tl : Int)] 41 := by rw [← hw2, ← hTk]; exact Blk.new _ _ _
   go_upto_region 2 with fail
   try rw [hTk]
   try rw [hw2]
   have sT : T < Tk := by rw [← hTk]; exact (Fr.blk (by assumption) H1.out.2.1 (fun q => q)).lt
   clear hTk hw2
   have F2 := H1.out.1.comp f2
   have bT2 := f2.blk H1.out.2.1 (fun q => q)
   have bp2 := F2.blk H1.out.2.2.1.blk (fun q => q)
   have HB := Lib.hid (And.intro bT2 (And.intro bp2 (And.intro F2 bk2)))
   have y0 := bk2.cell 0
   have y1 := bk2.cell 1
   have y2 := bk2.cell 2
   have y3 := bk2.cell 3
   have y4 := bk2.cell 4
   simp at y0 y1 y2 y3 y4
   have p0 := bp2.cell 0
   have p1 := bp2.cell 1
   have p2 := bp2.cell 2
   simp at p0 p1 p2
   have pf := bp2.free
   have pl := bp2.lt
   have z0 := bT2.cell 0
   have z1 := bT2.cell 1
   have z2 := bT2.cell 2
   have z3 := bT2.cell 3
   have z4 := bT2.cell 4
   have z5 := bT2.cell 5
   have z6 := bT2.cell 6
   have z7 := bT2.cell 7
   simp at z0 z1 z2 z3 z4 z5 z6 z7
   have yf := bT2.free
   have yl := bT2.lt
   have hne : pb ≠ T := by omega
   have hne2 : T ≠ pb := by omega
   have hne3 : ¬ Tk = pb := by omega
   have hne4 : ¬ Tk = T := by omega
   have hne5 : ¬ pb = Tk := by omega
   have hne6 : ¬ T = Tk := by omega
   clear f2 bT2 bp2 F2 bk2
   have F2 := HB.out.2.2.1
   have hwT : w.heap.size ≤ T := Nat.le_of_eq H1.out.2.2.2.1
   have fin : Hid (∀ wf, Fr (fun b => b = pb ∨ b = T) w2 wf → Blk wf pb #[vT, .int .i64 ((s.at_ : Int) + 1), .int .i64 dp] 62 → QEnds pb vT L dp w (QAtom w (some (.mk 5 tx false 0 [] [] [] []))) { s with at_ := s.at_ + 1 } (.returned (.tuple #[.agg #[.int .i64 5, .string ⟨tx.toArray⟩, .bool false, .int .u64 0, .slice none 0 0, .slice none 0 0, .slice none 0 0, .slice none 0 0], .bool true])) wf) := Lib.hid (fun wf fz bp => by
    have FF : Fr (fun b => b = pb) w wf := (Fr.of_nil F2).trans fz (fun b hb q => by rcases q with q | q; exact q; omega)
    exact .inl ⟨H1.out.2.2.2.2, _, rfl, ⟨_, rfl, EAt.leaf 5 tx false 0⟩, H1.out.2.2.1.to (at' := s.at_ + 1) (dp' := dp) FF bp HL.out, FF⟩)
   go_wp2
   (try simp only [Exit.inBlock, Exit.then])
   refine bodyPost_ret (v := .tuple #[.agg #[.int .i64 5, .string ⟨tx.toArray⟩, .bool false, .int .u64 0, .slice none 0 0, .slice none 0 0, .slice none 0 0, .slice none 0 0], .bool true]) (by simp [results, Tryz.results139, go_sem, *]) rfl ?_
   refine fin.out _ (by exact frG) ?_
   · (unfold Blk; simp (disch := first | omega | (simp; done) | (simp; omega)) only [hp_drew, hp_drewN, hp_alloc, hp_other, hp_same, hp_new, upd_cells, Option.map_some, (HB.out.2.1).eq])
     simp
 by_cases hx3 : tk = 3
 · subst hx3
   have hlt : s.at_ < L.length := peek_lt (k := 3) (by rw [htk]) (by decide)
   have e1 : atomF L (exprF L d) s = (some (.mk 3 [] tf tb [] [] [] []), { s with at_ := s.at_ + 1 }) := by unfold atomF; rw [htk]; rfl
   rw [e1]
   have i3 : IntKind.i64.wrap ((s.at_ : Int) + 1) = (s.at_ : Int) + 1 := by rw [IntKind.wrap_i64]; omega
   have HL := Lib.hid hlt
   clear hp f1 bT1 h htk hle e1 hlt hex HI HX
   go_enter Tryz.func139, Tryz.ntmps139
   go_upto_region 1 with fail
   try rw [hT]
   try rw [hW1]
   clear hT hW1
   go_wp2_with fail
   refine (HP.out W1 (Fr.refl _ _)).mono ?_
   rintro e w1 ⟨rfl, f2⟩
   unfold tokV
   obtain ⟨Tk, hTk⟩ : ∃ Tk, w1.heap.size = Tk := ⟨_, rfl⟩
   obtain ⟨w2, hw2⟩ : ∃ w2, w1.alloc (.cells #[.int .i64 3, .string ⟨tx.toArray⟩, .bool tf, .int .u64 (tb : Int), .int .i64 (tl : Int)] 41) = w2 := ⟨_, rfl⟩
   have f2 : Fr Nil W1 w2 := by rw [← hw2]; exact frA
   have bk2 : Blk w2 Tk #[.int .i64 3, .string ⟨tx.toArray⟩, .bool tf, .int .u64 (tb : Int), .int .i64 (tl : Int)] 41 := by rw [← hw2, ← hTk]; exact Blk.new _ _ _
   go_upto_region 2 with fail
   try rw [hTk]
   try rw [hw2]
   have sT : T < Tk := by rw [← hTk]; exact (Fr.blk (by assumption) H1.out.2.1 (fun q => q)).lt
   clear hTk hw2
   have F2 := H1.out.1.comp f2
   have bT2 := f2.blk H1.out.2.1 (fun q => q)
   have bp2 := F2.blk H1.out.2.2.1.blk (fun q => q)
   have HB := Lib.hid (And.intro bT2 (And.intro bp2 (And.intro F2 bk2)))
   have y0 := bk2.cell 0
   have y1 := bk2.cell 1
   have y2 := bk2.cell 2
   have y3 := bk2.cell 3
   have y4 := bk2.cell 4
   simp at y0 y1 y2 y3 y4
   have p0 := bp2.cell 0
   have p1 := bp2.cell 1
   have p2 := bp2.cell 2
   simp at p0 p1 p2
   have pf := bp2.free
   have pl := bp2.lt
   have z0 := bT2.cell 0
   have z1 := bT2.cell 1
   have z2 := bT2.cell 2
   have z3 := bT2.cell 3
   have z4 := bT2.cell 4
   have z5 := bT2.cell 5
   have z6 := bT2.cell 6
   have z7 := bT2.cell 7
   simp at z0 z1 z2 z3 z4 z5 z6 z7
   have yf := bT2.free
   have yl := bT2.lt
   have hne : pb ≠ T := by omega
   have hne2 : T ≠ pb := by omega
   have hne3 : ¬ Tk = pb := by omega
   have hne4 : ¬ Tk = T := by omega
   have hne5 : ¬ pb = Tk := by omega
   have hne6 : ¬ T = Tk := by omega
   clear f2 bT2 bp2 F2 bk2
   have F2 := HB.out.2.2.1
   have hwT : w.heap.size ≤ T := Nat.le_of_eq H1.out.2.2.2.1
   have fin : Hid (∀ wf, Fr (fun b => b = pb ∨ b = T) w2 wf → Blk wf pb #[vT, .int .i64 ((s.at_ : Int) + 1), .int .i64 dp] 62 → QEnds pb vT L dp w (QAtom w (some (.mk 3 [] tf tb [] [] [] []))) { s with at_ := s.at_ + 1 } (.returned (.tuple #[.agg #[.int .i64 3, .string ⟨#[]⟩, .bool tf, .int .u64 (tb : Int), .slice none 0 0, .slice none 0 0, .slice none 0 0, .slice none 0 0], .bool true])) wf) := Lib.hid (fun wf fz bp => by
    have FF : Fr (fun b => b = pb) w wf := (Fr.of_nil F2).trans fz (fun b hb q => by rcases q with q | q; exact q; omega)
    exact .inl ⟨H1.out.2.2.2.2, _, rfl, ⟨_, rfl, EAt.leaf 3 [] tf tb⟩, H1.out.2.2.1.to (at' := s.at_ + 1) (dp' := dp) FF bp HL.out, FF⟩)
   go_wp2
   (try simp only [Exit.inBlock, Exit.then])
   refine bodyPost_ret (v := .tuple #[.agg #[.int .i64 3, .string ⟨#[]⟩, .bool tf, .int .u64 (tb : Int), .slice none 0 0, .slice none 0 0, .slice none 0 0, .slice none 0 0], .bool true]) (by simp [results, Tryz.results139, go_sem, *]) rfl ?_
   refine fin.out _ (by exact frG) ?_
   · (unfold Blk; simp (disch := first | omega | (simp; done) | (simp; omega)) only [hp_drew, hp_drewN, hp_alloc, hp_other, hp_same, hp_new, upd_cells, Option.map_some, (HB.out.2.1).eq])
     simp
 have d1 : (tk == 1) = false := by simpa using hx1
 have d2 : (tk == 2) = false := by simpa using hx2
 have d3 : (tk == 3) = false := by simpa using hx3
 have d7 : (tk == 7) = false := by simpa using hx7
 have eA : atomF L (exprF L d) s = if seesF L [40] s = false then (none, s) else (some (exprF L d { s with at_ := s.at_ + 1 }).1, needF L [41] (exprF L d { s with at_ := s.at_ + 1 }).2) := by
  unfold atomF
  rw [htk]
  rw [if_neg hx1, if_neg hx2, if_neg hx7, if_neg hx3]
 rw [eA]
 by_cases hse : seesF L [40] s = false
 · rw [if_pos hse]
   simp only [hse, Bool.false_eq_true, if_false] at HI
   clear hp f1 bT1 h htk hle hex HX eA hse
   go_enter Tryz.func139, Tryz.ntmps139
   go_upto_region 1 with fail
   try rw [hT]
   try rw [hW1]
   clear hT hW1
   go_wp2_with fail
   refine (HP.out W1 (Fr.refl _ _)).mono ?_
   rintro e w1 ⟨rfl, f2⟩
   unfold tokV
   obtain ⟨Tk, hTk⟩ : ∃ Tk, w1.heap.size = Tk := ⟨_, rfl⟩
   obtain ⟨w2, hw2⟩ : ∃ w2, w1.alloc (.cells #[.int .i64 tk, .string ⟨tx.toArray⟩, .bool tf, .int .u64 (tb : Int), .int .i64 (tl : Int)] 41) = w2 := ⟨_, rfl⟩
   have f2 : Fr Nil W1 w2 := by rw [← hw2]; exact frA
   have bk2 : Blk w2 Tk #[.int .i64 tk, .string ⟨tx.toArray⟩, .bool tf, .int .u64 (tb : Int), .int .i64 (tl : Int)] 41 := by rw [← hw2, ← hTk]; exact Blk.new _ _ _
   go_upto_region 2 with fail
   try rw [hTk]
   try rw [hw2]
   have sT : T < Tk := by rw [← hTk]; exact (Fr.blk (by assumption) H1.out.2.1 (fun q => q)).lt
   clear hTk hw2
   have F2 := H1.out.1.comp f2
   have bT2 := f2.blk H1.out.2.1 (fun q => q)
   have bp2 := F2.blk H1.out.2.2.1.blk (fun q => q)
   have HB := Lib.hid (And.intro bT2 (And.intro bp2 (And.intro F2 bk2)))
   have y0 := bk2.cell 0
   have y1 := bk2.cell 1
   have y2 := bk2.cell 2
   have y3 := bk2.cell 3
   have y4 := bk2.cell 4
   simp at y0 y1 y2 y3 y4
   have hne6 : ¬ T = Tk := by omega
   clear f2 bT2 bp2 F2 bk2
   go_wp2_with fail
   refine (HI.out _ (Fr.comp (S := Nil) HB.out.2.2.1 (by exact frT))).mono ?_
   rintro e w3 ⟨rfl, h3, f3⟩
   have F3 : Fr (fun b => b = pb) w2 w3 := Fr.comp (S := fun b => b = pb) (by exact frT) f3
   have bT3 := F3.blk HB.out.1 (fun q => by have q' : T = pb := q; omega)
   have z0 := bT3.cell 0
   have z1 := bT3.cell 1
   have z2 := bT3.cell 2
   have z3 := bT3.cell 3
   have z4 := bT3.cell 4
   have z5 := bT3.cell 5
   have z6 := bT3.cell 6
   have z7 := bT3.cell 7
   simp at z0 z1 z2 z3 z4 z5 z6 z7
   have yf := bT3.free
   have yl := bT3.lt
   have H3 := Lib.hid (And.intro h3 (And.intro F3 bT3))
   clear h3 f3 F3 bT3
   have hwT : w.heap.size ≤ T := Nat.le_of_eq H1.out.2.2.2.1
   have fin : Hid (∀ wf, Fr (fun b => b = T) w3 wf → QEnds pb vT L dp w (QAtom w none) s (.returned (.tuple #[.agg #[.int .i64 0, .string ⟨#[]⟩, .bool false, .int .u64 0, .slice none 0 0, .slice none 0 0, .slice none 0 0, .slice none 0 0], .bool false])) wf) := Lib.hid (fun wf fz => by
    have FF : Fr (fun b => b = pb) w wf := ((Fr.of_nil HB.out.2.2.1).comp H3.out.2.1).trans fz (fun b hb q => by have q' : b = T := q; omega)
    refine .inl ⟨H1.out.2.2.2.2, _, rfl, rfl, ⟨fz.blk H3.out.1.blk (fun q => by have q' : pb = T := q; omega), H1.out.2.2.1.toks.fr FF (fun _ q => q), H3.out.1.le, H3.out.1.sz⟩, FF⟩)
   go_wp2
   (try simp only [Exit.inBlock, Exit.then])
   refine bodyPost_ret (v := .tuple #[.agg #[.int .i64 0, .string ⟨#[]⟩, .bool false, .int .u64 0, .slice none 0 0, .slice none 0 0, .slice none 0 0, .slice none 0 0], .bool false]) (by simp [results, Tryz.results139, go_sem, *]) rfl ?_
   exact fin.out _ (by exact frG)
 · have hse2 : seesF L [40] s = true := by simpa using hse
   rw [if_neg hse]
   simp only [hse2, if_true] at HI
   obtain ⟨E, hE⟩ : ∃ E, (exprF L d { s with at_ := s.at_ + 1 }).1 = E := ⟨_, rfl⟩
   obtain ⟨s3, hs3⟩ : ∃ s3, (exprF L d { s with at_ := s.at_ + 1 }).2 = s3 := ⟨_, rfl⟩
   rw [hE, hs3]
   obtain ⟨s4, hs4⟩ : ∃ s4, needF L [41] s3 = s4 := ⟨_, rfl⟩
   rw [hs4]
   have hexs : ∀ w', QAt w' pb vT L (s.at_ + 1) dp → Calls Tryz.prog 76 #[.pointer (some ⟨pb, 0, none⟩)] w' (QEnds pb vT L dp w' (fun w'' v => EVal (fun b => b < w'.heap.size) w'' v E) s3) := fun w' h' => by
    have h := HX.out w' { s with at_ := s.at_ + 1 } hs h'
    rw [hE, hs3] at h
    exact h
   have hWn : ∀ w', s3.e = 0 → QAt w' pb vT L s3.at_ dp → Calls Tryz.prog 41 #[.pointer (some ⟨pb, 0, none⟩), .string ⟨#[41]⟩] w' (QEnds pb vT L dp w' (fun _ v => v = .tuple #[]) s4) := fun w' q h' => by
    rw [← hs4]
    exact qwant_any [41] q h'
   have hbad : ¬ s3.e = 0 → s4 = s3 := fun q => by rw [← hs4, need_stop q]
   have HY := Lib.hid (And.intro hexs (And.intro hWn hbad))
   clear hp f1 bT1 h htk hle hex HX eA hse hse2 hE hs3 hs4 hexs hWn hbad
   go_enter Tryz.func139, Tryz.ntmps139
   go_upto_region 1 with fail
   try rw [hT]
   try rw [hW1]
   clear hT hW1
   go_wp2_with fail
   refine (HP.out W1 (Fr.refl _ _)).mono ?_
   rintro e w1 ⟨rfl, f2⟩
   unfold tokV
   obtain ⟨Tk, hTk⟩ : ∃ Tk, w1.heap.size = Tk := ⟨_, rfl⟩
   obtain ⟨w2, hw2⟩ : ∃ w2, w1.alloc (.cells #[.int .i64 tk, .string ⟨tx.toArray⟩, .bool tf, .int .u64 (tb : Int), .int .i64 (tl : Int)] 41) = w2 := ⟨_, rfl⟩
   have f2 : Fr Nil W1 w2 := by rw [← hw2]; exact frA
   have bk2 : Blk w2 Tk #[.int .i64 tk, .string ⟨tx.toArray⟩, .bool tf, .int .u64 (tb : Int), .int .i64 (tl : Int)] 41 := by rw [← hw2, ← hTk]; exact Blk.new _ _ _
   go_upto_region 2 with fail
   try rw [hTk]
   try rw [hw2]
   have sT : T < Tk := by rw [← hTk]; exact (Fr.blk (by assumption) H1.out.2.1 (fun q => q)).lt
   clear hTk hw2
   have F2 := H1.out.1.comp f2
   have bT2 := f2.blk H1.out.2.1 (fun q => q)
   have bp2 := F2.blk H1.out.2.2.1.blk (fun q => q)
   have HB := Lib.hid (And.intro bT2 (And.intro bp2 (And.intro F2 bk2)))
   have y0 := bk2.cell 0
   have y1 := bk2.cell 1
   have y2 := bk2.cell 2
   have y3 := bk2.cell 3
   have y4 := bk2.cell 4
   simp at y0 y1 y2 y3 y4
   have hne6 : ¬ T = Tk := by omega
   clear f2 bT2 bp2 F2 bk2
   go_wp2_with fail
   refine (HI.out _ (Fr.comp (S := Nil) HB.out.2.2.1 (by exact frT))).mono ?_
   rintro e w3 ⟨rfl, h3, f3⟩
   have F3 : Fr (fun b => b = pb) w2 w3 := Fr.comp (S := fun b => b = pb) (by exact frT) f3
   have H3 := Lib.hid (And.intro h3 ((Fr.of_nil HB.out.2.2.1).comp F3))
   have HT3 := Lib.hid (F3.blk HB.out.1 (fun q => by have q' : T = pb := q; omega))
   clear h3 f3 F3
   have hwT : w.heap.size ≤ T := Nat.le_of_eq H1.out.2.2.2.1
   go_wp2_with fail
   refine (HY.out.1 _ H3.out.1).mono ?_
   rintro e w4 (⟨hs30, v4, rfl, ⟨cs, rfl, hE4⟩, h4, f4⟩ | hbr)
   · obtain ⟨k, nm, fl, bi, a0, n0, c0, a1, n1, c1, a2, n2, c2, a3, n3, c3, rfl⟩ := hE4.form
     unfold eC
     have s3z := HT3.out.lt
     have s4z := f4.size
     have bT4 := f4.blk HT3.out (fun q => by have q' : T = pb := q; omega)
     have hE4' : EAt (fun b => b < T + 1) w4 (eC k nm fl bi a0 n0 c0 a1 n1 c1 a2 n2 c2 a3 n3 c3) E := hE4.mono (fun b _ q => by omega)
     obtain ⟨Te, hTe⟩ : ∃ Te, w4.heap.size = Te := ⟨_, rfl⟩
     have hTTe : T < Te := by omega
     have HEe := Lib.hid (And.intro hE4' (And.intro h4 (And.intro (H3.out.2.comp f4) (And.intro hTe bT4))))
     clear hE4 hE4' h4 f4 bT4
     obtain ⟨W5, hW5⟩ : ∃ W5, (w4.alloc (.cells #[.int .i64 (k : Int), .string nm, .bool fl, .int .u64 (bi : Int), .slice a0 n0 c0, .slice a1 n1 c1, .slice a2 n2 c2, .slice a3 n3 c3] 49)) = W5 := ⟨_, rfl⟩
     have fW5 : Fr Nil w4 W5 := by rw [← hW5]; exact frA
     have bE5 : Blk W5 Te #[.int .i64 (k : Int), .string nm, .bool fl, .int .u64 (bi : Int), .slice a0 n0 c0, .slice a1 n1 c1, .slice a2 n2 c2, .slice a3 n3 c3] 49 := by rw [← hW5, ← hTe]; exact Blk.new _ _ _
     go_upto_region 18 with fail
     try rw [hTe]
     try rw [hW5]
     clear hW5 hTe
     go_wp2_with fail
     refine (HY.out.2.1 _ hs30 (HEe.out.2.1.fr fW5)).mono ?_
     rintro e w5 (⟨hs40, v5, rfl, rfl, h5, f5⟩ | hbr)
     · have bT5 := f5.blk (fW5.blk HEe.out.2.2.2.2 (fun q => q)) (fun q => by have q' : T = pb := q; omega)
       have bE5 := f5.blk bE5 (fun q => by have q' : Te = pb := q; omega)
       have F45 : Fr (fun b => b = pb) w4 w5 := (Fr.of_nil fW5).comp f5
       have z0 := bT5.cell 0
       have z1 := bT5.cell 1
       have z2 := bT5.cell 2
       have z3 := bT5.cell 3
       have z4 := bT5.cell 4
       have z5 := bT5.cell 5
       have z6 := bT5.cell 6
       have z7 := bT5.cell 7
       simp at z0 z1 z2 z3 z4 z5 z6 z7
       have yf := bT5.free
       have yl := bT5.lt
       have x0 := bE5.cell 0
       have x1 := bE5.cell 1
       have x2 := bE5.cell 2
       have x3 := bE5.cell 3
       have x4 := bE5.cell 4
       have x5 := bE5.cell 5
       have x6 := bE5.cell 6
       have x7 := bE5.cell 7
       simp at x0 x1 x2 x3 x4 x5 x6 x7
       have xf := bE5.free
       have xl := bE5.lt
       have hne7 : ¬ T = Te := by omega
       have hne8 : ¬ Te = T := by omega
       have H5 := Lib.hid (And.intro (HEe.out.1.fr F45 (fun b q => by have q' : b = pb := q; show b < T + 1; omega)) (And.intro h5 (HEe.out.2.2.1.comp F45)))
       clear fW5 h5 f5 bT5 bE5 F45
       have fin : Hid (∀ wf, Fr (fun b => b = T) w5 wf → QEnds pb vT L dp w (QAtom w (some E)) s4 (.returned (.tuple #[.agg #[.int .i64 (k : Int), .string nm, .bool fl, .int .u64 (bi : Int), .slice a0 n0 c0, .slice a1 n1 c1, .slice a2 n2 c2, .slice a3 n3 c3], .bool true])) wf) := Lib.hid (fun wf fz => by
        have FF : Fr (fun b => b = pb) w wf := H5.out.2.2.trans fz (fun b hb q => by have q' : b = T := q; omega)
        refine .inl ⟨hs40, _, rfl, ⟨_, rfl, (H5.out.1.fr fz (fun b q => by have q' : b = T := q; show b < T + 1; omega)).mono (fun b _ q => by have q' : b < w.heap.size := q; omega)⟩, ⟨fz.blk H5.out.2.1.blk (fun q => by have q' : pb = T := q; omega), H1.out.2.2.1.toks.fr FF (fun _ q => q), H5.out.2.1.le, H5.out.2.1.sz⟩, FF⟩)
       go_wp2
       (try simp only [Exit.inBlock, Exit.then])
       refine bodyPost_ret (v := .tuple #[.agg #[.int .i64 (k : Int), .string nm, .bool fl, .int .u64 (bi : Int), .slice a0 n0 c0, .slice a1 n1 c1, .slice a2 n2 c2, .slice a3 n3 c3], .bool true]) (by simp [results, Tryz.results139, go_sem, *]) rfl ?_
       exact fin.out _ (by exact frG)
     · have hb2 := hbr.back (HEe.out.2.2.1.comp (Fr.of_nil fW5))
       obtain ⟨_, rfl, _⟩ := hbr
       exact ⟨rfl, .inr hb2⟩
   · have hb2 := hbr.back H3.out.2
     obtain ⟨hne, rfl, _⟩ := hbr
     refine ⟨rfl, .inr ?_⟩
     rw [HY.out.2.2 hne]
     exact hb2
end
end Go.Proofs.YtlnmicddobgppaaGreatDoor
