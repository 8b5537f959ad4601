/-
  Contracts of package stack: Push.
-/
import Derived.Test.YtncncoakibilcaaStack4
import Derived.Test.YtncncoakibilcaaVia
import Derived.Deep.RegionWith
import Derived.Deep.RegionLawGrows
import Derived.BigQuiet
import Derived.Lib.SmallJoins
namespace Go.Proofs.Ytncncoakibilcaa
set_option linter.unusedSimpArgs false
set_option linter.unusedVariables false
open Go.RowKit

theorem infoFrame : (Try.prog.info? 32).map (fun i => (i.zero, i.size, i.bytes)) = some (some (.agg #[.int .i64 0, .int .i64 0, .slice none 0 0]), 3, 40) := by kernel_rfl
theorem new3 (w : World) (a b c : Value) (t : TypeId) : ∀ (j : Nat) (u : Value), [a, b, c][j]? = some u → (w.alloc (.cells #[a, b, c] t)).cell? ((⟨w.heap.size, 0, none⟩ : Addr).add j) = some u := by
  intro j u hj
  rw [add_head, (Blk.new w _ t).cell]
  simpa using hj
/-- A row that holds frames' cells, in a block that X does not name. -/
theorem FramesAt.of_owns {X : Nat → Prop} {w : World} {base : Nat} {g cap : Nat} {cs : List Value} {l : List FrameV} {n : Nat} (h : w.ownsRow base 32 3 (.slice (some ⟨g, 0, none⟩) n cap) n cs) (hn : n = l.length) (hc : Cells3 X w cs l) (hX : ∀ b, X b → b < base) : FramesAt X w (.slice (some ⟨g, 0, none⟩) l.length cap) l := by
  subst hn
  have hcell := fun j u hj => h.cells (g := g) rfl j u hj
  have hlt := h.lt g rfl
  rcases h.2 with ⟨h0, _⟩ | ⟨g', cap', cur, e, hb, hg, hcap, _⟩
  · cases h0
  · cases e
    exact .inr ⟨g, cap, cs, rfl, hcap, hlt.2, fun q => by have := hX g q; omega, fun j u hj => by have := hcell j u hj; rwa [add_head] at this, hc⟩

theorem pushed {X : Nat → Prop} {bs g2 cap2 b' base n : Nat} {cs : List Value} {v : Value} {l : List FrameV} {x : FrameV} {room todo : Nat} {w w' : World} (hX : ∀ b, X b → b < w.heap.size) (h3 : X bs) (hc : Cells3 X w cs l) (fg : Fr (fun b => b = bs) w w') (hn : n = l.length + 1)
    (hown : w'.ownsRow base 32 3 (.slice (some ⟨g2, 0, none⟩) n cap2) n (cs ++ [.int .i64 x.kind, .int .i64 x.node, .slice (some ⟨b', 0, none⟩) x.words.length x.words.length])) (hbase : w.heap.size ≤ base)
    (s16 : Blk w' bs #[v, .int .i64 room, .int .i64 ((usedOf l : Nat) + ((x.words.length : Int) + 2)), .int .i64 todo] 60) (b46 : Blk w' b' (ints x.words) 2) (hb' : w.heap.size ≤ b') (h4 : todo ≤ l.length) (hin : usedOf l + (x.words.length + 2) ≤ room) (h6 : room ≤ 4096) (h7 : ∀ f ∈ l, f.words.length ≤ 5000) (hxl : x.words.length ≤ 5000) :
    StackAt X (w'.setCell ⟨bs, 0, none⟩ (.slice (some ⟨g2, 0, none⟩) n cap2)) bs (l ++ [x]) room todo ∧ Fr (fun b => b = bs) w (w'.setCell ⟨bs, 0, none⟩ (.slice (some ⟨g2, 0, none⟩) n cap2)) := by
  have hll : n = (l ++ [x]).length := by simp [hn]
  have c3 : Cells3 X w' (cs ++ [.int .i64 x.kind, .int .i64 x.node, .slice (some ⟨b', 0, none⟩) x.words.length x.words.length]) (l ++ [x]) :=
    (hc.fr fg (fun b _ q => by rw [q]; exact h3)).snoc (IntsAt.of_blk b46 (fun q => by have := hX b' q; omega) _)
  have hf := FramesAt.of_owns hown hll c3 (fun b q => by have := hX b q; omega)
  refine ⟨⟨⟨_, ?_, hf.fr (S := fun b => b = bs) ((Fr.refl _ _).set _ _ (fun _ => rfl)) (fun b _ q => by rw [q]; exact h3)⟩, h3, by simp; omega, by rw [usedOf_snoc]; omega, h6, ?_⟩, fg.set _ _ (fun _ => rfl)⟩
  · refine s16.put ?_
    rw [hll, usedOf_snoc]
    simp
  · intro f hf
    simp at hf
    rcases hf with hf | rfl
    · exact h7 f hf
    · exact hxl

section
variable (X : Nat → Prop) (bs : Nat) (l : List FrameV) (room todo : Nat) (w : World)
theorem push_out (x : FrameV) (u : Value) (hu : IntsAt X w u x.words) (hxl : x.words.length ≤ 5000) (hout : room < usedOf l + (x.words.length + 2)) (h : StackAt X w bs l room todo) :
    Calls Try.prog 10 #[.pointer (some ⟨bs, 0, none⟩), .agg #[.int .i64 x.kind, .int .i64 x.node, u]] w fun e w' =>
      e = .returned (.int .i64 13) ∧ Fr Nil w w' := by
  have h' := h
  obtain ⟨⟨v, h1, h2⟩, h3, h4, h5, h6, h7⟩ := h
  have hbs := h1.lt
  have hne : bs ≠ w.heap.size := by omega
  have d1 := h1.cell 1
  have d2 := h1.cell 2
  simp at d1 d2
  have ht : decide ((room : Int) - (usedOf l : Nat) < (x.words.length : Int) + 2) = true := by simp; omega
  have hwr : IntKind.i64.wrap ((room : Int) - (usedOf l : Nat)) = (room : Int) - (usedOf l : Nat) := by rw [IntKind.wrap_i64]; omega
  have hroom : (room : Int) ≤ 4096 := by omega
  have hus : ((usedOf l : Nat) : Int) ≤ 4096 := by omega
  clear h4 h7 h2 h6
  go_enter Try.func10, Try.ntmps10
  go_wp2_with fail
  obtain ⟨W, hW⟩ : ∃ W, W = w.alloc (.cells #[.int .i64 x.kind, .int .i64 x.node, u] 32) := ⟨_, rfl⟩
  rw [← hW]
  have r1 : Blk W bs #[v, .int .i64 room, .int .i64 (usedOf l : Nat), .int .i64 todo] 60 := by
    rw [hW]; (unfold Blk; simp (disch := first | omega | (simp; done) | (simp; omega)) only [hp_drew, hp_drewN, hp_alloc, hp_other, hp_same, hp_new, upd_cells, Option.map_some, (h1).eq])
  have r2 : Blk W w.heap.size #[.int .i64 x.kind, .int .i64 x.node, u] 32 := by
    rw [hW]; (unfold Blk; simp (disch := first | omega | (simp; done) | (simp; omega)) only [hp_drew, hp_drewN, hp_alloc, hp_other, hp_same, hp_new, upd_cells, Option.map_some])
  have r5 : Fr Nil w W := by
    rw [hW]; (repeat (first | (with_reducible exact Fr.refl _ _) | (with_reducible assumption) | (with_reducible exact Fr.of_nil (by assumption)) | (with_reducible refine Fr.drew ?_) | (with_reducible refine Fr.drewN ?_ _) | (with_reducible refine Fr.alloc ?_ _) | (with_reducible refine Fr.set ?_ _ _ (by first | (intros; omega) | (simp; done) | (simp; omega))) | (with_reducible refine Fr.via ?_ (by assumption)) | (with_reducible refine Fr.comp ?_ (by assumption))))
  clear hW h1
  have d1 := r1.cell 1
  have d2 := r1.cell 2
  have p0 := r2.cell 0
  have p1 := r2.cell 1
  have p2 := r2.cell 2
  simp at d1 d2 p0 p1 p2
  go_region_held3 (fun w' => w'.cell? ⟨bs, 1, none⟩ = some (.int .i64 room) ∧ w'.cell? ⟨bs, 2, none⟩ = some (.int .i64 (usedOf l : Nat)) ∧ w'.cell? ⟨w.heap.size, 0, none⟩ = some (.int .i64 x.kind) ∧ w'.cell? ⟨w.heap.size, 1, none⟩ = some (.int .i64 x.node) ∧ w'.cell? ⟨w.heap.size, 2, none⟩ = some u) (first | go_keep | exact ⟨q1, q2, q3, q4, q5⟩) (first
    | (go_at_call 27; refine (size_any X x u _ (hu.fr (S := Nil) r5.drew (fun _ _ q => q.elim)) hxl).mono ?_; rintro e w2 ⟨rfl, f2⟩; have q1 := f2.cell (a := ⟨bs, 1, none⟩) d1 (by simp [Nil]); have q2 := f2.cell (a := ⟨bs, 2, none⟩) d2 (by simp [Nil]); have q3 := f2.cell (a := ⟨w.heap.size, 0, none⟩) p0 (by simp [Nil]); have q4 := f2.cell (a := ⟨w.heap.size, 1, none⟩) p1 (by simp [Nil]); have q5 := f2.cell (a := ⟨w.heap.size, 2, none⟩) p2 (by simp [Nil]); have f3 := r5.drew.trans f2 (fun _ _ q => q.elim)))
  go_wp2
  go_ret
  exact ⟨rfl, f3⟩
set_option maxHeartbeats 1000000 in
theorem push_in (x : FrameV) (u : Value) (hu : IntsAt X w u x.words) (hxl : x.words.length ≤ 5000) (hin : usedOf l + (x.words.length + 2) ≤ room) (hX : ∀ b, X b → b < w.heap.size) (h : StackAt X w bs l room todo) :
    Calls Try.prog 10 #[.pointer (some ⟨bs, 0, none⟩), .agg #[.int .i64 x.kind, .int .i64 x.node, u]] w fun e w' =>
      e = .returned (.int .i64 0) ∧ StackAt X w' bs (l ++ [x]) room todo ∧ Fr (fun b => b = bs) w w' := by
  have h' := h
  obtain ⟨⟨v, h1, h2⟩, h3, h4, h5, h6, h7⟩ := h
  have hbs := h1.lt
  have hne : bs ≠ w.heap.size := by omega
  have hne' : w.heap.size ≠ bs := by omega
  have ht : decide ((room : Int) - (usedOf l : Nat) < (x.words.length : Int) + 2) = false := by simp; omega
  have hwr : IntKind.i64.wrap ((room : Int) - (usedOf l : Nat)) = (room : Int) - (usedOf l : Nat) := by rw [IntKind.wrap_i64]; omega
  have hwr2 : IntKind.i64.wrap (((usedOf l : Nat) : Int) + ((x.words.length : Int) + 2)) = ((usedOf l : Nat) : Int) + ((x.words.length : Int) + 2) := by rw [IntKind.wrap_i64]; omega
  have hroom : (room : Int) ≤ 4096 := by omega
  have hus : ((usedOf l : Nat) : Int) ≤ 4096 := by omega
  have h4' := Lib.hid (And.intro h4 (And.intro h6 h7))
  clear h4 h7 h6
  go_enter Try.func10, Try.ntmps10
  go_wp2_with fail
  obtain ⟨W, hW⟩ : ∃ W, W = w.alloc (.cells #[.int .i64 x.kind, .int .i64 x.node, u] 32) := ⟨_, rfl⟩
  rw [← hW]
  have r1 : Blk W bs #[v, .int .i64 room, .int .i64 (usedOf l : Nat), .int .i64 todo] 60 := by
    rw [hW]; (unfold Blk; simp (disch := first | omega | (simp; done) | (simp; omega)) only [hp_drew, hp_drewN, hp_alloc, hp_other, hp_same, hp_new, upd_cells, Option.map_some, (h1).eq])
  have r2 : Blk W w.heap.size #[.int .i64 x.kind, .int .i64 x.node, u] 32 := by
    rw [hW]; (unfold Blk; simp (disch := first | omega | (simp; done) | (simp; omega)) only [hp_drew, hp_drewN, hp_alloc, hp_other, hp_same, hp_new, upd_cells, Option.map_some])
  have r5 : Fr Nil w W := by
    rw [hW]; (repeat (first | (with_reducible exact Fr.refl _ _) | (with_reducible assumption) | (with_reducible exact Fr.of_nil (by assumption)) | (with_reducible refine Fr.drew ?_) | (with_reducible refine Fr.drewN ?_ _) | (with_reducible refine Fr.alloc ?_ _) | (with_reducible refine Fr.set ?_ _ _ (by first | (intros; omega) | (simp; done) | (simp; omega))) | (with_reducible refine Fr.via ?_ (by assumption)) | (with_reducible refine Fr.comp ?_ (by assumption))))
  clear hW h1
  have d1 := r1.cell 1
  have d2 := r1.cell 2
  have p0 := r2.cell 0
  have p1 := r2.cell 1
  have p2 := r2.cell 2
  simp at d1 d2 p0 p1 p2
  go_region_held3 (fun w' => w'.cell? ⟨bs, 1, none⟩ = some (.int .i64 room) ∧ w'.cell? ⟨bs, 2, none⟩ = some (.int .i64 (usedOf l : Nat)) ∧ w'.cell? ⟨w.heap.size, 0, none⟩ = some (.int .i64 x.kind) ∧ w'.cell? ⟨w.heap.size, 1, none⟩ = some (.int .i64 x.node) ∧ w'.cell? ⟨w.heap.size, 2, none⟩ = some u) (first | go_keep | exact ⟨q1, q2, q3, q4, q5⟩) (first
    | (go_at_call 27; refine (size_any X x u _ (hu.fr (S := Nil) r5.drew (fun _ _ q => q.elim)) hxl).mono ?_; rintro e w2 ⟨rfl, f2⟩; have q1 := f2.cell (a := ⟨bs, 1, none⟩) d1 (by simp [Nil]); have q2 := f2.cell (a := ⟨bs, 2, none⟩) d2 (by simp [Nil]); have q3 := f2.cell (a := ⟨w.heap.size, 0, none⟩) p0 (by simp [Nil]); have q4 := f2.cell (a := ⟨w.heap.size, 1, none⟩) p1 (by simp [Nil]); have q5 := f2.cell (a := ⟨w.heap.size, 2, none⟩) p2 (by simp [Nil]); have f3 := r5.drew.trans f2 (fun _ _ q => q.elim); have r12 := f2.blk r1.drew (by simp [Nil]); have r22 := f2.blk r2.drew (by simp [Nil])))
  go_wp2
  clear r1 r2 r5 d1 d2 p0 p1 p2 f2
  have y2 := r12.free 2
  have hs4 := r12.lt
  have hs5 := r22.lt
  apply wp_via (F := fun V => Blk V bs #[v, .int .i64 room, .int .i64 ((usedOf l : Nat) + ((x.words.length : Int) + 2)), .int .i64 todo] 60 ∧ Blk V w.heap.size #[.int .i64 x.kind, .int .i64 x.node, u] 32 ∧ Fr (fun b => b = bs) w V)
  · go_region_with (first
      | (go_at_call 27; refine (size_any X x u _ (hu.fr (S := Nil) f3.drew (fun _ _ q => q.elim)) hxl).mono ?_; rintro e w3 ⟨rfl, f2⟩; have r13 := f2.blk r12.drew (by simp [Nil]); have r23 := f2.blk r22.drew (by simp [Nil]); have r53 := f3.drew.trans f2 (fun _ _ q => q.elim); have y23 := r13.free 2; have hs6 := r13.lt; have d23 := r13.cell 2; have p03 := r23.cell 0; have p13 := r23.cell 1; have p23 := r23.cell 2; simp at d23 p03 p13 p23))
    all_goals
      refine Via.mk ⟨?_, ?_, ?_⟩
      · (unfold Blk; simp (disch := first | omega | (simp; done) | (simp; omega)) only [hp_drew, hp_drewN, hp_alloc, hp_other, hp_same, hp_new, upd_cells, Option.map_some, (r13).eq])
        simp
      · (unfold Blk; simp (disch := first | omega | (simp; done) | (simp; omega)) only [hp_drew, hp_drewN, hp_alloc, hp_other, hp_same, hp_new, upd_cells, Option.map_some, (r23).eq])
      · (repeat (first | (with_reducible exact Fr.refl _ _) | (with_reducible assumption) | (with_reducible exact Fr.of_nil (by assumption)) | (with_reducible refine Fr.drew ?_) | (with_reducible refine Fr.drewN ?_ _) | (with_reducible refine Fr.alloc ?_ _) | (with_reducible refine Fr.set ?_ _ _ (by first | (intros; omega) | (simp; done) | (simp; omega))) | (with_reducible refine Fr.via ?_ (by assumption)) | (with_reducible refine Fr.comp ?_ (by assumption))))
  rintro V ⟨s1, s2, s5⟩
  obtain ⟨i0, hi, hz0, hz1, hz2⟩ := info_parts infoFrame
  clear r12 r22 y2 hs4 hs5 hwr2 hwr f3 q1 q2 q3 q4 q5 ht
  have hV := s5.size
  rcases h2 with ⟨rfl, rfl⟩ | ⟨g, cap, cs, rfl, hcap, hgw, hXg, hcs, hc3⟩
  · have d0 := s1.cell 0
    have y0 := s1.free 0
    have p0 := s2.cell 0
    have p1 := s2.cell 1
    have p2 := s2.cell 2
    simp at d0 p0 p1 p2
    have hs4 := s1.lt
    have hs5 := s2.lt
    go_wp2
    go_region_law (first
      | (refine step_append_grows rfl (.tmp 39) (.tmp 42) 29 rfl 32 i0 (.agg #[.int .i64 0, .int .i64 0, .slice none 0 0]) 3 40 Try.underlying29 hi hz0 hz1 hz2 rfl (by decide) none 0 0 [] rfl (fun _ => ⟨rfl, rfl⟩) rfl (fun b hb => by cases hb) ⟨w4.heap.size, 0, none⟩ 1 1 [.int .i64 x.kind, .int .i64 x.node, .slice (some ⟨b', 0, none⟩) x.words.length x.words.length] rfl rfl hnew (by simp [Value.oneCell']) (by omega) (by unfold maxLen; omega) (by omega) ?_; intro v' w' hown hgrow; obtain ⟨g2, cap2, rfl⟩ := Joins.ownsRow_form hown (by omega); have fg : Fr (fun b => b = bs) w w' := f04.grown hgrow (by simp); have s16 := (Fr.refl Nil _).grown hgrow (by simp) |>.blk s15 (by simp [Nil]); have b46 := (Fr.refl Nil _).grown hgrow (by simp) |>.blk b45 (by simp [Nil]); have d06 := s16.cell 0; have y06 := s16.free 0; have hs6 := s16.lt; simp at d06)
      | (go_simp; go_wp2_with (go_at_call 28; refine (copied_any X x u _ (hu.fr (S := fun b => b = bs) s5.drew (fun b _ q => by rw [q]; exact h3)) hxl (fun b q => by have := hX b q; simp; omega)).mono ?_; rintro e w4 ⟨b', rfl, hb4, hsz, f4⟩; have s14 := f4.blk s1.drew (by simp [Nil]); have d04 := s14.cell 0; simp at d04; have hs14 := s14.lt; have s15 := s14.alloc (Obj.cells #[.int .i64 x.kind, .int .i64 x.node, .slice (some ⟨b', 0, none⟩) x.words.length x.words.length] 32); have b45 := hb4.alloc (Obj.cells #[.int .i64 x.kind, .int .i64 x.node, .slice (some ⟨b', 0, none⟩) x.words.length x.words.length] 32); have f04 := (s5.drew.trans f4 (fun _ _ q => q.elim)).alloc (Obj.cells #[.int .i64 x.kind, .int .i64 x.node, .slice (some ⟨b', 0, none⟩) x.words.length x.words.length] 32); have hnew := new3 w4 (.int .i64 x.kind) (.int .i64 x.node) (.slice (some ⟨b', 0, none⟩) x.words.length x.words.length) 32)))
    all_goals
      go_wp2
      go_ret
      refine ⟨rfl, ?_⟩
      obtain ⟨h4o, h6o, h7o⟩ := h4'.out
      have hsz' : w.heap.size ≤ b' := Nat.le_trans hV hsz
      have hsz4 : w.heap.size ≤ w4.heap.size := Nat.le_trans hV f4.size
      exact pushed (cs := []) hX h3 (Cells3.nil X w) fg rfl hown (by simp; omega) s16 b46 hsz' h4o hin h6o h7o hxl
  · have d0 := s1.cell 0
    have y0 := s1.free 0
    have p0 := s2.cell 0
    have p1 := s2.cell 1
    have p2 := s2.cell 2
    simp at d0 p0 p1 p2
    have hs4 := s1.lt
    have hs5 := s2.lt
    have hll : l.length ≤ 4096 := by have := usedOf_len l; omega
    have hgb : g ≠ bs := fun q => hXg (q ▸ h3)
    go_wp2
    go_region_law (first
      | (refine step_append_grows rfl (.tmp 39) (.tmp 42) 29 rfl 32 i0 (.agg #[.int .i64 0, .int .i64 0, .slice none 0 0]) 3 40 Try.underlying29 hi hz0 hz1 hz2 rfl (by decide) (some ⟨g, 0, none⟩) l.length l.length cs rfl (by simp) hc3.1 (fun b hb j u hj => by cases hb; rw [add_head]; exact hcs4 j u hj) ⟨w4.heap.size, 0, none⟩ 1 1 [.int .i64 x.kind, .int .i64 x.node, .slice (some ⟨b', 0, none⟩) x.words.length x.words.length] rfl rfl hnew (by simp [Value.oneCell']) (by omega) (by unfold maxLen; omega) (by omega) ?_; intro v' w' hown hgrow; obtain ⟨g2, cap2, rfl⟩ := Joins.ownsRow_form hown (by omega); have fg : Fr (fun b => b = bs) w w' := f04.grown hgrow (by simp); have s16 := (Fr.refl Nil _).grown hgrow (by simp) |>.blk s15 (by simp [Nil]); have b46 := (Fr.refl Nil _).grown hgrow (by simp) |>.blk b45 (by simp [Nil]); have d06 := s16.cell 0; have y06 := s16.free 0; have hs6 := s16.lt; simp at d06)
      | (go_simp; go_wp2_with (go_at_call 28; refine (copied_any X x u _ (hu.fr (S := fun b => b = bs) s5.drew (fun b _ q => by rw [q]; exact h3)) hxl (fun b q => by have := hX b q; simp; omega)).mono ?_; rintro e w4 ⟨b', rfl, hb4, hsz, f4⟩; have s14 := f4.blk s1.drew (by simp [Nil]); have d04 := s14.cell 0; simp at d04; have hs14 := s14.lt; have s15 := s14.alloc (Obj.cells #[.int .i64 x.kind, .int .i64 x.node, .slice (some ⟨b', 0, none⟩) x.words.length x.words.length] 32); have b45 := hb4.alloc (Obj.cells #[.int .i64 x.kind, .int .i64 x.node, .slice (some ⟨b', 0, none⟩) x.words.length x.words.length] 32); have f04 := (s5.drew.trans f4 (fun _ _ q => q.elim)).alloc (Obj.cells #[.int .i64 x.kind, .int .i64 x.node, .slice (some ⟨b', 0, none⟩) x.words.length x.words.length] 32); have hcs4 := fun j u (hj : cs[j]? = some u) => f04.cell (a := ⟨g, j, none⟩) (hcs j u hj) hgb; have hnew := new3 w4 (.int .i64 x.kind) (.int .i64 x.node) (.slice (some ⟨b', 0, none⟩) x.words.length x.words.length) 32)))
    all_goals
      go_wp2
      go_ret
      refine ⟨rfl, ?_⟩
      obtain ⟨h4o, h6o, h7o⟩ := h4'.out
      have hsz' : w.heap.size ≤ b' := Nat.le_trans hV hsz
      have hsz4 : w.heap.size ≤ w4.heap.size := Nat.le_trans hV f4.size
      exact pushed hX h3 hc3 fg rfl hown (by simp; omega) s16 b46 hsz' h4o hin h6o h7o hxl
end
end Go.Proofs.Ytncncoakibilcaa
