/-
  Contracts of the document's stack (treadwheelref15): Do, the calls that turn it.
-/
import Derived.Test.YtncncoakibilcaaStack13
import Derived.Test.YtncncoakibilcaaAppend
import Derived.Deep.RegionLawGrows
import Derived.Deep.DeepCutAuto
namespace Go.Proofs.Ytncncoakibilcaa
set_option linter.unusedSimpArgs false
set_option linter.unusedVariables false
open Go.RowKit

theorem owns_empty (w : World) (base size : Nat) (e : TypeId) (h : base ≤ w.heap.size) : (w.alloc (.cells #[] e)).ownsRow base e size (.slice (some ⟨w.heap.size, 0, none⟩) 0 0) 0 [] :=
  World.ownsRow_made w #[] 0 h (by simp) (by simp)
theorem Cells3.one {X : Nat → Prop} {w : World} {cs : List Value} {l : List FrameV} (h : Cells3 X w cs l) : ∀ u ∈ cs, u.oneCell' = true := by
  intro u hu
  obtain ⟨i, hi⟩ := List.mem_iff_getElem?.1 hu
  have hil : i < cs.length := by
    rcases Nat.lt_or_ge i cs.length with q | q
    · exact q
    · rw [List.getElem?_eq_none q] at hi; cases hi
  have hq : i / 3 < l.length := by have := h.1; omega
  obtain ⟨e0, e1, v, e2, e3⟩ := h.2 (i / 3) _ (List.getElem?_eq_getElem hq)
  have hm : i % 3 = 0 ∨ i % 3 = 1 ∨ i % 3 = 2 := by omega
  rcases hm with hm | hm | hm
  · rw [show i / 3 * 3 = i by omega, hi] at e0
    cases e0; rfl
  · rw [show i / 3 * 3 + 1 = i by omega, hi] at e1
    cases e1; rfl
  · rw [show i / 3 * 3 + 2 = i by omega, hi] at e2
    cases e2
    exact e3.oneCell
theorem FramesAt.src {X : Nat → Prop} {w : World} {av : Option Addr} {cap : Nat} {l : List FrameV} (h : FramesAt X w (.slice av l.length cap) l) :
    ∃ cs, Cells3 X w cs l ∧ ∀ w', Fr Nil w w' → Src w' av l.length 3 cs := by
  rcases h with ⟨e, rfl⟩ | ⟨g, cap', cs, e, h2, h3, h4, h5, h6⟩
  · cases e
    exact ⟨[], Cells3.nil _ _, fun w' _ => .inl ⟨rfl, rfl, rfl⟩⟩
  · cases e
    exact ⟨cs, h6, fun w' f => .inr ⟨_, rfl, h6.1, fun j u hj => by rw [add_head]; exact f.cell (h5 j u hj) (by simp [Nil])⟩⟩
theorem owns_src {w : World} {base : Nat} {t : TypeId} {au : Option Addr} {n cap : Nat} {xs : List Value} (h : w.ownsRow base t 1 (.slice au n cap) n xs) :
    ∀ w', Fr Nil w w' → Src w' au n 1 xs := by
  intro w' f
  obtain ⟨e1, e2⟩ := id h
  rcases e2 with ⟨e, rfl⟩ | ⟨g, cap', cur, e, _⟩
  · cases e
    exact .inl ⟨rfl, rfl, List.eq_nil_of_length_eq_zero (by simpa using e1)⟩
  · cases e
    exact .inr ⟨_, rfl, e1, fun j u hj => by
      have := h.cells (g := g) rfl j u hj
      rw [add_head] at this ⊢
      exact f.cell this (by simp [Nil])⟩
theorem frames_more {X : Nat → Prop} {w2 : World} {B g cap n : Nat} {l : List FrameV} {cs : List Value} {x : FrameV} {u : Value} (hX : ∀ b, X b → b < B) (hc : Cells3 X w2 cs l) (hu : IntsAt X w2 u x.words) (hn : n = l.length + 1)
    (hown : w2.ownsRow B 32 3 (.slice (some ⟨g, 0, none⟩) n cap) n (cs ++ [.int .i64 x.kind, .int .i64 x.node, u])) : FramesAt X w2 (.slice (some ⟨g, 0, none⟩) n cap) (l ++ [x]) := by
  have h := FramesAt.of_owns hown (by simp [hn]) (hc.snoc hu) hX
  rwa [show (l ++ [x]).length = n by simp [hn]] at h
/-- Behind the append to the frames. -/
def Pushed1 (X : Nat → Prop) (t : Nat) (W wx : World) (br room : Nat) (l : List FrameV) (u' : Value) : Prop :=
  ∃ v2, Blk wx br #[v2, u', .int .i64 room] 54 ∧ FramesAt (fun b => X b ∨ b = br ∨ b = t) wx v2 l ∧ Fr (fun b => b = br) W wx
theorem blk_src3 {w : World} {b : Nat} {x y z : Value} {t : TypeId} (h : Blk w b #[x, y, z] t) : Src w (some ⟨b, 0, none⟩) 1 3 [x, y, z] :=
  .inr ⟨_, rfl, rfl, fun j u hj => by
    rw [add_head, h.cell j]
    simpa using hj⟩
theorem blk_src1 {w : World} {b : Nat} {x : Value} {t : TypeId} (h : Blk w b #[x] t) : Src w (some ⟨b, 0, none⟩) 1 1 [x] :=
  .inr ⟨_, rfl, rfl, fun j u hj => by
    rw [add_head, h.cell j]
    simpa using hj⟩
theorem todo_one (n td : Nat) : ∀ u ∈ todoL n td, u.oneCell' = true := by
  intro u hu
  simp [todoL] at hu
  obtain ⟨_, _, rfl⟩ := hu
  rfl
theorem pushed2 {X : Nat → Prop} {wx w4 Wf : World} {B br t room todo g4 cap4 : Nat} {l : List FrameV} {x : FrameV} {v2 : Value} (hX : ∀ b, X b → b < B) (hB : B ≤ wx.heap.size) (ht : t < wx.heap.size) (hb : br < wx.heap.size)
    (hF : FramesAt (fun b => X b ∨ b = br ∨ b = t) wx v2 (l ++ [x])) (f4 : Fr Nil wx w4) (h4 : w4.ownsRow wx.heap.size 4 1 (.slice (some ⟨g4, 0, none⟩) (l.length + 1) cap4) (l.length + 1) (todoL l.length todo ++ [.bool false]))
    (ff : Fr (fun b => b = br ∨ b = t) w4 Wf) (hblk : Blk Wf br #[v2, .slice (some ⟨g4, 0, none⟩) (l.length + 1) cap4, .int .i64 room] 54)
    (hx1 : ¬ X br) (hx2 : todo ≤ l.length) (hin : usedOf l + (x.words.length + 2) ≤ room) (hx4 : room ≤ 4096) (hx5 : ∀ f ∈ l, f.words.length ≤ 5000) (hxl : x.words.length ≤ 5000) : RefAt X Wf br (l ++ [x]) room todo := by
  have hl4 := h4.lt g4 rfl
  refine ⟨⟨v2, .slice (some ⟨g4, 0, none⟩) (l.length + 1) cap4, hblk, ?_, ?_, ?_⟩, hx1, by simp; omega, by rw [usedOf_snoc]; omega, hx4, ?_⟩
  · have h1 : FramesAt (fun b => (X b ∨ TodoX br (.slice (some ⟨g4, 0, none⟩) (l.length + 1) cap4) b) ∨ b = t) wx v2 (l ++ [x]) := hF.mono (fun b hb q => by
      rcases q with (q | q | q) | q
      · exact .inl q
      · exact .inr (.inl q)
      · have q' := q
        simp [Value.ownBlock] at q'
        omega
      · exact .inr (.inr q))
    have h2 := h1.fr f4 (fun _ _ q => q.elim)
    have h3 := h2.fr ff (fun b _ q => q.elim (fun q => .inl (.inr (.inl q))) .inr)
    exact h3.mono (fun b _ q => .inl q)
  · rw [show (l ++ [x]).length = l.length + 1 by simp, ← todoL_snoc hx2]
    refine owns_blk (Joins.ownsRow_le h4 (by omega)) (fun g e => ?_)
    cases e
    exact ff.block g4 hl4.2 (fun q => by omega)
  · intro b e hb
    have e' : g4 = b := by simpa [Value.ownBlock] using e
    have := hX _ hb
    omega
  · intro f hf
    rcases List.mem_append.1 hf with q | q
    · exact hx5 f q
    · simp at q; subst q; exact hxl
section
variable (X : Nat → Prop) (br : Nat) (l : List FrameV) (room todo : Nat) (w : World) (x : FrameV) (u : Value)
set_option maxRecDepth 100000 in
set_option maxHeartbeats 2000000 in
theorem rdo_push_in (hu : IntsAt (fun b => X b ∨ b = br) w u x.words) (hxl : x.words.length ≤ 5000) (hin : usedOf l + (x.words.length + 2) ≤ room) (hX : ∀ b, X b → b < w.heap.size) (h : RefAt X w br l room todo) :
    Calls Try.prog 23 #[.pointer (some ⟨br, 0, none⟩), .agg #[.int .i64 0, .int .i64 x.kind, .int .i64 x.node, u]] w fun e w' => e = .returned (toldV ⟨noF, false, false, 0⟩ (.slice none 0 0)) ∧ RefAt X w' br (l ++ [x]) room todo ∧ Turn br w w' := by
  have hus := h.hused
  have hrm := h.hroom
  have ht : decide ((room : Int) < ((usedOf l : Nat) : Int) + (x.words.length : Int) + 2) = false := by simp; omega
  have hw1 : IntKind.i64.wrap (((usedOf l : Nat) : Int) + (x.words.length : Int)) = ((usedOf l : Nat) : Int) + (x.words.length : Int) := by rw [IntKind.wrap_i64]; omega
  have hw2 : IntKind.i64.wrap (((usedOf l : Nat) : Int) + (x.words.length : Int) + 2) = ((usedOf l : Nat) : Int) + (x.words.length : Int) + 2 := by rw [IntKind.wrap_i64]; omega
  obtain ⟨a, c, rfl, hcu⟩ := hu
  have HU : Hid (IntsAt (fun b => X b ∨ b = br) w (.slice a x.words.length c) x.words) := Lib.hid ⟨a, c, rfl, hcu⟩
  clear hcu
  have hbr := h.lt
  have hll : l.length ≤ 4096 := by have := usedOf_len l; omega
  have HH := Lib.hid h
  obtain ⟨⟨v', u', r1, hF, hO, hN⟩, hx1, hx2, hx3, hx4, hx5⟩ := h
  obtain ⟨av, capv, rfl⟩ := hF.form
  obtain ⟨au, capu, rfl⟩ := owns_shape hO
  have HF := Lib.hid hF
  have HO := Lib.hid hO
  have HR1 := Lib.hid r1
  have c0 := r1.cell 0
  simp at c0
  clear hF hO
  have D := doAt w (0) x (.slice a x.words.length c)
  go_enter Try.func23, Try.ntmps23
  go_wp2_with fail
  generalize ((w.alloc (.cells #[.int .i64 0, .int .i64 x.kind, .int .i64 x.node, .slice a x.words.length c] 34)).alloc (.cells #[.int .i64 0, .int .i64 0, .slice none 0 0, .bool false, .bool false, .int .i64 0] 44)) = W at D ⊢
  obtain ⟨fW, r2, r3⟩ := D
  have r1' := fW.blk r1 (by simp [Nil])
  clear c0 r1
  have c0 := r1'.cell 0
  have c1 := r1'.cell 1
  have c2 := r1'.cell 2
  have z0 := r1'.free 0
  have z1 := r1'.free 1
  have p0 := r2.cell 0
  have p1 := r2.cell 1
  have p2 := r2.cell 2
  have p3 := r2.cell 3
  have q0 := r3.cell 0
  have q1 := r3.cell 1
  have q2 := r3.cell 2
  have q3 := r3.cell 3
  have q4 := r3.cell 4
  have q5 := r3.cell 5
  have y0 := r3.free 0
  have y1 := r3.free 1
  have y2 := r3.free 2
  have y3 := r3.free 3
  have y4 := r3.free 4
  have y5 := r3.free 5
  simp at c0 c1 c2 p0 p1 p2 p3 q0 q1 q2 q3 q4 q5
  have hs3 := r3.lt
  have hs1 := r1'.lt
  go_quiet ((go_at_call 24; exact Calls.quiet_of_same (rused_q X br l room todo _ ((HH.out.fr fW (fun _ _ q => q.elim)).drewN _))))
  clear ht hw1 hw2
  go_upto_region 7 with fail
  go_cut [] (fun wx => Pushed1 X (w.heap.size + 1) W wx br room (l ++ [x]) (.slice au l.length capu))
  case first =>
    obtain ⟨V, hV⟩ : ∃ V, V = W.drewN nq := ⟨_, rfl⟩
    rw [← hV]
    have s1 := r1'.drewN nq
    have s2 := r2.drewN nq
    have s3 := r3.drewN nq
    have fV := fW.drewN nq
    have fWV : Fr Nil W V := by rw [hV]; (repeat (first | (with_reducible exact Fr.refl _ _) | (with_reducible assumption) | (with_reducible exact Fr.of_nil (by assumption)) | (with_reducible refine Fr.drew ?_) | (with_reducible refine Fr.drewN ?_ _) | (with_reducible refine Fr.alloc ?_ _) | (with_reducible refine Fr.set ?_ _ _ (by first | (intros; omega) | (simp; done) | (simp; omega))) | (with_reducible refine Fr.via ?_ (by assumption)) | (with_reducible refine Fr.comp ?_ (by assumption))))
    rw [← hV] at s1 s2 s3 fV
    clear hV fW r1' r2 r3 c0 c1 c2 z0 z1 p0 p1 p2 p3 q0 q1 q2 q3 q4 q5 y0 y1 y2 y3 y4 y5 hs3 hs1
    have c0 := s1.cell 0
    have c1 := s1.cell 1
    have z0 := s1.free 0
    have z1 := s1.free 1
    have p1 := s2.cell 1
    have p2 := s2.cell 2
    have p3 := s2.cell 3
    have q0 := s3.cell 0
    have q1 := s3.cell 1
    have q2 := s3.cell 2
    have q3 := s3.cell 3
    have q4 := s3.cell 4
    have q5 := s3.cell 5
    have y0 := s3.free 0
    have y1 := s3.free 1
    have y2 := s3.free 2
    have y3 := s3.free 3
    have y4 := s3.free 4
    have y5 := s3.free 5
    simp at c0 c1 p1 p2 p3 q0 q1 q2 q3 q4 q5
    have hs3 := s3.lt
    have hs2 := s2.lt
    have hs1 := s1.lt
    obtain ⟨i0, hi, hz0, hz1, hz2⟩ := info_parts infoFrame
    obtain ⟨j0, hj, hy0, hy1, hy2⟩ := info_parts infoBool
    obtain ⟨cs, HC3, HSRC⟩ := HF.out.src
    have HC3' := Lib.hid HC3
    have HSR := Lib.hid HSRC
    have HOS := Lib.hid (owns_src HO.out)
    clear HC3 HSRC
    have hsV := fV.size
    have hown0 := owns_empty V V.heap.size 3 32 (Nat.le_refl _)
    have HOWN0 := Lib.hid hown0
    clear hown0
    have HOWNC : Hid (((V.alloc (.cells #[.int .i64 x.kind, .int .i64 x.node, .slice a x.words.length c] 32)).alloc (.cells #[] 32)).ownsRow V.heap.size 32 3 (.slice (some ⟨V.heap.size + 1, 0, none⟩) 0 0) 0 []) := Lib.hid (by have h := owns_empty (V.alloc (.cells #[.int .i64 x.kind, .int .i64 x.node, .slice a x.words.length c] 32)) V.heap.size 3 32 (by simp); simpa using h)
    have hlen3 : cs.length = l.length * 3 := HC3'.out.1
    go_region_law (first
      | (refine step_append_src rfl (.tmp 33) (.tmp 37) 29 rfl V.heap.size 32 i0 (.agg #[.int .i64 0, .int .i64 0, .slice none 0 0]) 3 40 Try.underlying29 hi hz0 hz1 hz2 rfl (by decide) (.slice (some ⟨V.heap.size, 0, none⟩) 0 0) 0 [] rfl (HOWN0.out) av l.length capv cs rfl (HSR.out _ (by (repeat (first | (with_reducible exact Fr.refl _ _) | (with_reducible assumption) | (with_reducible exact Fr.of_nil (by assumption)) | (with_reducible refine Fr.drew ?_) | (with_reducible refine Fr.drewN ?_ _) | (with_reducible refine Fr.alloc ?_ _) | (with_reducible refine Fr.set ?_ _ _ (by first | (intros; omega) | (simp; done) | (simp; omega))) | (with_reducible refine Fr.via ?_ (by assumption)) | (with_reducible refine Fr.comp ?_ (by assumption)))))) HC3'.out.one (by unfold maxLen; omega) (by omega) (by first | omega | (simp <;> omega)) ?_; intro v1 w1 hown1 hgrow1 hat1; simp only [Nat.zero_add, List.nil_append] at hown1; have f1 : Fr Nil V w1 := Fr.grown (by (repeat (first | (with_reducible exact Fr.refl _ _) | (with_reducible assumption) | (with_reducible exact Fr.of_nil (by assumption)) | (with_reducible refine Fr.drew ?_) | (with_reducible refine Fr.drewN ?_ _) | (with_reducible refine Fr.alloc ?_ _) | (with_reducible refine Fr.set ?_ _ _ (by first | (intros; omega) | (simp; done) | (simp; omega))) | (with_reducible refine Fr.via ?_ (by assumption)) | (with_reducible refine Fr.comp ?_ (by assumption))))) hgrow1 (fun k q hk => by simp [Value.ownBlock] at q; omega); have HOWN1 := Lib.hid hown1; have hsz1 := f1.size; have HLT1 := Lib.hid hown1.lt; obtain ⟨a1, cap1, rfl⟩ := owns_shape hown1; clear hown1 hgrow1 hat1; have t1 := f1.blk s1 (by simp [Nil]); have t2 := f1.blk s2 (by simp [Nil]); have d1 := t2.cell 1; have d2 := t2.cell 2; have d3 := t2.cell 3; simp at d1 d2 d3; have hst2 := t2.lt)
      | (refine step_append_src rfl (.tmp 33) (.tmp 37) 29 rfl V.heap.size 32 i0 (.agg #[.int .i64 0, .int .i64 0, .slice none 0 0]) 3 40 Try.underlying29 hi hz0 hz1 hz2 rfl (by decide) (.slice (some ⟨V.heap.size, 0, none⟩) 0 0) 0 [] rfl (HOWN0.out.alloc _) av l.length capv cs rfl (HSR.out _ (by (repeat (first | (with_reducible exact Fr.refl _ _) | (with_reducible assumption) | (with_reducible exact Fr.of_nil (by assumption)) | (with_reducible refine Fr.drew ?_) | (with_reducible refine Fr.drewN ?_ _) | (with_reducible refine Fr.alloc ?_ _) | (with_reducible refine Fr.set ?_ _ _ (by first | (intros; omega) | (simp; done) | (simp; omega))) | (with_reducible refine Fr.via ?_ (by assumption)) | (with_reducible refine Fr.comp ?_ (by assumption)))))) HC3'.out.one (by unfold maxLen; omega) (by omega) (by first | omega | (simp <;> omega)) ?_; intro v1 w1 hown1 hgrow1 hat1; simp only [Nat.zero_add, List.nil_append] at hown1; have f1 : Fr Nil V w1 := Fr.grown (by (repeat (first | (with_reducible exact Fr.refl _ _) | (with_reducible assumption) | (with_reducible exact Fr.of_nil (by assumption)) | (with_reducible refine Fr.drew ?_) | (with_reducible refine Fr.drewN ?_ _) | (with_reducible refine Fr.alloc ?_ _) | (with_reducible refine Fr.set ?_ _ _ (by first | (intros; omega) | (simp; done) | (simp; omega))) | (with_reducible refine Fr.via ?_ (by assumption)) | (with_reducible refine Fr.comp ?_ (by assumption))))) hgrow1 (fun k q hk => by simp [Value.ownBlock] at q; omega); have HOWN1 := Lib.hid hown1; have hb1 := (Fr.refl (fun k => k = V.heap.size) _).grown hgrow1 (fun k q _ => by simp [Value.ownBlock] at q; exact q.symm); have hb2 := hb1.blk (b := V.heap.size + 1) (c := #[.int .i64 x.kind, .int .i64 x.node, .slice a x.words.length c]) (t := 32) (by (unfold Blk; simp (disch := first | omega | (simp; done) | (simp; omega)) only [hp_drew, hp_drewN, hp_alloc, hp_other, hp_same, hp_new, upd_cells, Option.map_some])) (by simp); have hsz1 := f1.size; have HLT1 := Lib.hid hown1.lt; obtain ⟨a1, cap1, rfl⟩ := owns_shape hown1; clear hown1 hgrow1 hat1; have t1 := f1.blk s1 (by simp [Nil]); have t2 := f1.blk s2 (by simp [Nil]); have d1 := t2.cell 1; have d2 := t2.cell 2; have d3 := t2.cell 3; simp at d1 d2 d3; have hst2 := t2.lt)
      | (refine step_append_src rfl (.tmp 33) (.tmp 37) 29 rfl V.heap.size 32 i0 (.agg #[.int .i64 0, .int .i64 0, .slice none 0 0]) 3 40 Try.underlying29 hi hz0 hz1 hz2 rfl (by decide) (.slice (some ⟨V.heap.size + 1, 0, none⟩) 0 0) 0 [] rfl (HOWNC.out) av l.length capv cs rfl (HSR.out _ (by (repeat (first | (with_reducible exact Fr.refl _ _) | (with_reducible assumption) | (with_reducible exact Fr.of_nil (by assumption)) | (with_reducible refine Fr.drew ?_) | (with_reducible refine Fr.drewN ?_ _) | (with_reducible refine Fr.alloc ?_ _) | (with_reducible refine Fr.set ?_ _ _ (by first | (intros; omega) | (simp; done) | (simp; omega))) | (with_reducible refine Fr.via ?_ (by assumption)) | (with_reducible refine Fr.comp ?_ (by assumption)))))) HC3'.out.one (by unfold maxLen; omega) (by omega) (by first | omega | (simp <;> omega)) ?_; intro v1 w1 hown1 hgrow1 hat1; simp only [Nat.zero_add, List.nil_append] at hown1; have f1 : Fr Nil V w1 := Fr.grown (by (repeat (first | (with_reducible exact Fr.refl _ _) | (with_reducible assumption) | (with_reducible exact Fr.of_nil (by assumption)) | (with_reducible refine Fr.drew ?_) | (with_reducible refine Fr.drewN ?_ _) | (with_reducible refine Fr.alloc ?_ _) | (with_reducible refine Fr.set ?_ _ _ (by first | (intros; omega) | (simp; done) | (simp; omega))) | (with_reducible refine Fr.via ?_ (by assumption)) | (with_reducible refine Fr.comp ?_ (by assumption))))) hgrow1 (fun k q hk => by simp [Value.ownBlock] at q; omega); have HOWN1 := Lib.hid hown1; have hb1 := (Fr.refl (fun k => k = V.heap.size + 1) _).grown hgrow1 (fun k q _ => by simp [Value.ownBlock] at q; exact q.symm); have hb2 := hb1.blk (b := V.heap.size) (c := #[.int .i64 x.kind, .int .i64 x.node, .slice a x.words.length c]) (t := 32) (by (unfold Blk; simp (disch := first | omega | (simp; done) | (simp; omega)) only [hp_drew, hp_drewN, hp_alloc, hp_other, hp_same, hp_new, upd_cells, Option.map_some])) (by simp); have hsz1 := f1.size; have HLT1 := Lib.hid hown1.lt; obtain ⟨a1, cap1, rfl⟩ := owns_shape hown1; clear hown1 hgrow1 hat1; have t1 := f1.blk s1 (by simp [Nil]); have t2 := f1.blk s2 (by simp [Nil]); have d1 := t2.cell 1; have d2 := t2.cell 2; have d3 := t2.cell 3; simp at d1 d2 d3; have hst2 := t2.lt)
      | (refine step_append_src rfl (.tmp 38) (.tmp 41) 29 rfl V.heap.size 32 i0 (.agg #[.int .i64 0, .int .i64 0, .slice none 0 0]) 3 40 Try.underlying29 hi hz0 hz1 hz2 rfl (by decide) _ _ _ rfl (HOWN1.out.alloc _) (some ⟨w1.heap.size, 0, none⟩) 1 1 [.int .i64 x.kind, .int .i64 x.node, .slice a x.words.length c] rfl (blk_src3 (t := 32) (by (unfold Blk; simp (disch := first | omega | (simp; done) | (simp; omega)) only [hp_drew, hp_drewN, hp_alloc, hp_other, hp_same, hp_new, upd_cells, Option.map_some]))) (by simp [Value.oneCell']) (by unfold maxLen; omega) (by omega) (by first | omega | (simp <;> omega)) ?_; intro v2 w2 hown2 hgrow2 hat2; have f2 : Fr Nil V w2 := Fr.grown (f1.alloc _) hgrow2 (fun k q hk => by have := HLT1.out k q; omega); have HOWN2 := Lib.hid hown2; have hsz2 := f2.size; have HLT2 := Lib.hid hown2.lt; obtain ⟨g2, cap2, rfl⟩ := Joins.ownsRow_form hown2 (by omega); clear hown2 hgrow2 hat2 d1 d2 d3 t1 t2 hst2; have t1 := f2.blk s1 (by simp [Nil]); have d0 := t1.cell 0; have x0 := t1.free 0; simp at d0; have hst1 := t1.lt)
      | (refine step_append_src rfl (.tmp 38) (.tmp 41) 29 rfl V.heap.size 32 i0 (.agg #[.int .i64 0, .int .i64 0, .slice none 0 0]) 3 40 Try.underlying29 hi hz0 hz1 hz2 rfl (by decide) _ _ _ rfl (HOWN1.out) (some ⟨V.heap.size, 0, none⟩) 1 1 [.int .i64 x.kind, .int .i64 x.node, .slice a x.words.length c] rfl (blk_src3 hb2) (by simp [Value.oneCell']) (by unfold maxLen; omega) (by omega) (by first | omega | (simp <;> omega)) ?_; intro v2 w2 hown2 hgrow2 hat2; have f2 : Fr Nil V w2 := Fr.grown (f1) hgrow2 (fun k q hk => by have := HLT1.out k q; omega); have HOWN2 := Lib.hid hown2; have hsz2 := f2.size; have HLT2 := Lib.hid hown2.lt; obtain ⟨g2, cap2, rfl⟩ := Joins.ownsRow_form hown2 (by omega); clear hown2 hgrow2 hat2 d1 d2 d3 t1 t2 hst2; have t1 := f2.blk s1 (by simp [Nil]); have d0 := t1.cell 0; have x0 := t1.free 0; simp at d0; have hst1 := t1.lt)
      | (refine step_append_src rfl (.tmp 38) (.tmp 41) 29 rfl V.heap.size 32 i0 (.agg #[.int .i64 0, .int .i64 0, .slice none 0 0]) 3 40 Try.underlying29 hi hz0 hz1 hz2 rfl (by decide) _ _ _ rfl (HOWN1.out) (some ⟨V.heap.size + 1, 0, none⟩) 1 1 [.int .i64 x.kind, .int .i64 x.node, .slice a x.words.length c] rfl (blk_src3 hb2) (by simp [Value.oneCell']) (by unfold maxLen; omega) (by omega) (by first | omega | (simp <;> omega)) ?_; intro v2 w2 hown2 hgrow2 hat2; have f2 : Fr Nil V w2 := Fr.grown (f1) hgrow2 (fun k q hk => by have := HLT1.out k q; omega); have HOWN2 := Lib.hid hown2; have hsz2 := f2.size; have HLT2 := Lib.hid hown2.lt; obtain ⟨g2, cap2, rfl⟩ := Joins.ownsRow_form hown2 (by omega); clear hown2 hgrow2 hat2 d1 d2 d3 t1 t2 hst2; have t1 := f2.blk s1 (by simp [Nil]); have d0 := t1.cell 0; have x0 := t1.free 0; simp at d0; have hst1 := t1.lt))
    all_goals
      go_wp2_with fail
      go_meet
      refine ⟨.slice (some ⟨g2, 0, none⟩) (l.length + 1) cap2, ?_, ?_, ?_⟩
      · (unfold Blk; simp (disch := first | omega | (simp; done) | (simp; omega)) only [hp_drew, hp_drewN, hp_alloc, hp_other, hp_same, hp_new, upd_cells, Option.map_some, (t1).eq])
        simp
      · refine (frames_more (B := V.heap.size) (l := l) (cs := cs) (x := x) (u := .slice a x.words.length c) (fun b q => ?_) (Cells3.fr (HC3'.out.mono (fun b hb q => q.elim .inl (fun q => q.elim (fun q => .inr (.inl q)) (fun q => by omega)))) (fV.comp f2) (fun _ _ q => q.elim)) ((HU.out.mono (fun b hb q => q.elim .inl (fun q => q.elim .inr (fun q => by omega)))).fr (fV.comp f2) (fun _ _ q => q.elim)) rfl HOWN2.out).fr (S := fun b => b = br) (by (repeat (first | (with_reducible exact Fr.refl _ _) | (with_reducible assumption) | (with_reducible exact Fr.of_nil (by assumption)) | (with_reducible refine Fr.drew ?_) | (with_reducible refine Fr.drewN ?_ _) | (with_reducible refine Fr.alloc ?_ _) | (with_reducible refine Fr.set ?_ _ _ (by first | (intros; omega) | (simp; done) | (simp; omega))) | (with_reducible refine Fr.via ?_ (by assumption)) | (with_reducible refine Fr.comp ?_ (by assumption))))) (fun b _ q => .inr (.inl q))
        rcases q with q | q | q
        · have := hX b q; omega
        · omega
        · omega
      · (repeat (first | (with_reducible exact Fr.refl _ _) | (with_reducible assumption) | (with_reducible exact Fr.of_nil (by assumption)) | (with_reducible refine Fr.drew ?_) | (with_reducible refine Fr.drewN ?_ _) | (with_reducible refine Fr.alloc ?_ _) | (with_reducible refine Fr.set ?_ _ _ (by first | (intros; omega) | (simp; done) | (simp; omega))) | (with_reducible refine Fr.via ?_ (by assumption)) | (with_reducible refine Fr.comp ?_ (by assumption))))
  case rest =>
    obtain ⟨v2, t1, hF2, ff⟩ := hcut
    obtain ⟨wx, rfl⟩ : ∃ V, V = wc := ⟨_, rfl⟩
    obtain ⟨j0, hj, hy0, hy1, hy2⟩ := info_parts infoBool
    have ffw : Fr (fun b => b = br) w wx := Fr.trans fW.of_nil ff (fun k hk q => q)
    have hOlt := HO.out.lt
    have hOx : wx.ownsRow (br + 1) 4 1 (.slice au l.length capu) l.length (todoL l.length todo) := owns_blk HO.out (fun g e => ffw.block g (hOlt g e).2 (fun q => by have := (hOlt g e).1; have q' : g = br := q; omega))
    have HOS := Lib.hid (owns_src hOx)
    have hsx := ffw.size
    have hsxW := ff.size
    have s3 := ff.blk r3 (fun q => by have q' : w.heap.size + 1 = br := q; omega)
    have HF2 := Lib.hid hF2
    have HOWNB := Lib.hid (owns_empty wx wx.heap.size 1 4 (Nat.le_refl _))
    clear hF2 hOx hOlt r1' r2 r3 c0 c1 c2 z0 z1 p0 p1 p2 p3 q0 q1 q2 q3 q4 q5 y0 y1 y2 y3 y4 y5 hs3 hs1 HF HH
    have c1 := t1.cell 1
    simp at c1
    have hs1 := t1.lt
    have hn1 : br ≠ w.heap.size + 1 := by omega
    have hn2 : w.heap.size + 1 ≠ br := by omega
    have hs3x := s3.lt
    go_wp2_with (first
      | (at_builtin; refine wpList_append_src rfl (.tmp 46) (.tmp 50) 52 rfl wx.heap.size 4 j0 (.bool false) 1 1 Try.underlying52 hj hy0 hy1 hy2 rfl (by decide) (.slice (some ⟨wx.heap.size, 0, none⟩) 0 0) 0 [] rfl (by exact HOWNB.out) au l.length capu (todoL l.length todo) rfl (HOS.out _ (by (repeat (first | (with_reducible exact Fr.refl _ _) | (with_reducible assumption) | (with_reducible exact Fr.of_nil (by assumption)) | (with_reducible refine Fr.drew ?_) | (with_reducible refine Fr.drewN ?_ _) | (with_reducible refine Fr.alloc ?_ _) | (with_reducible refine Fr.set ?_ _ _ (by first | (intros; omega) | (simp; done) | (simp; omega))) | (with_reducible refine Fr.via ?_ (by assumption)) | (with_reducible refine Fr.comp ?_ (by assumption)))))) (todo_one _ _) (by unfold maxLen; omega) (by omega) (by first | omega | (simp <;> omega)) ?_; intro v3 w3 hown3 hgrow3 hat3; simp only [Nat.zero_add, List.nil_append] at hown3; have f3 : Fr Nil wx w3 := Fr.grown (by (repeat (first | (with_reducible exact Fr.refl _ _) | (with_reducible assumption) | (with_reducible exact Fr.of_nil (by assumption)) | (with_reducible refine Fr.drew ?_) | (with_reducible refine Fr.drewN ?_ _) | (with_reducible refine Fr.alloc ?_ _) | (with_reducible refine Fr.set ?_ _ _ (by first | (intros; omega) | (simp; done) | (simp; omega))) | (with_reducible refine Fr.via ?_ (by assumption)) | (with_reducible refine Fr.comp ?_ (by assumption))))) hgrow3 (fun k q hk => by simp [Value.ownBlock] at q; omega); have HOWN3 := Lib.hid hown3; have hsz3 := f3.size; have HLT3 := Lib.hid hown3.lt; obtain ⟨a3, cap3, rfl⟩ := owns_shape hown3; clear hown3 hgrow3 hat3)
      | (at_builtin; refine wpList_append_src rfl (.tmp 51) (.tmp 52) 52 rfl wx.heap.size 4 j0 (.bool false) 1 1 Try.underlying52 hj hy0 hy1 hy2 rfl (by decide) _ _ _ rfl (HOWN3.out.alloc _) (some ⟨w3.heap.size, 0, none⟩) 1 1 [.bool false] rfl (blk_src1 (t := 4) (by (unfold Blk; simp (disch := first | omega | (simp; done) | (simp; omega)) only [hp_drew, hp_drewN, hp_alloc, hp_other, hp_same, hp_new, upd_cells, Option.map_some]))) (by simp [Value.oneCell']) (by unfold maxLen; omega) (by omega) (by first | omega | (simp <;> omega)) ?_; intro v4 w4 hown4 hgrow4 hat4; have f4 : Fr Nil wx w4 := Fr.grown (f3.alloc _) hgrow4 (fun k q hk => by have := HLT3.out k q; omega); have HOWN4 := Lib.hid hown4; have hsz4 := f4.size; have HLT4 := Lib.hid hown4.lt; obtain ⟨g4, cap4, rfl⟩ := Joins.ownsRow_form hown4 (by omega); clear hown4 hgrow4 hat4; have t4 := f4.blk t1 (by simp [Nil]); have d1 := t4.cell 1; have x1 := t4.free 1; simp at d1; have hst1 := t4.lt; have u4 := f4.blk s3 (by simp [Nil]); have q0 := u4.cell 0; have y0 := u4.free 0; have q1 := u4.cell 1; have y1 := u4.free 1; have q2 := u4.cell 2; have y2 := u4.free 2; have q3 := u4.cell 3; have y3 := u4.free 3; have q4 := u4.cell 4; have y4 := u4.free 4; have q5 := u4.cell 5; have y5 := u4.free 5; simp at q0 q1 q2 q3 q4 q5; have hsu := u4.lt))
    refine bodyPost_ret (v := (toldV ⟨noF, false, false, 0⟩ (.slice none 0 0))) (by simp [toldV, noF, results, Try.results23, go_sem, q0, q1, q2, q3, q4, q5, hsu]) rfl ⟨rfl, ?_, ?_⟩
    · refine pushed2 (B := w.heap.size) (t := w.heap.size + 1) hX hsx (by omega) (by omega) HF2.out f4 HOWN4.out (by (repeat (first | (with_reducible exact Fr.refl _ _) | (with_reducible assumption) | (with_reducible refine Fr.drew ?_) | (with_reducible refine Fr.alloc ?_ _) | (with_reducible refine Fr.set ?_ _ _ (fun _ => by simp [Value.ownBlock]))))) ?_ hx1 hx2 hin hx4 hx5 hxl
      (unfold Blk; simp (disch := first | omega | (simp; done) | (simp; omega)) only [hp_drew, hp_drewN, hp_alloc, hp_other, hp_same, hp_new, upd_cells, Option.map_some, (t4).eq])
      simp
    · refine Turn.of_blk HR1.out (v' := v2) (u' := .slice (some ⟨g4, 0, none⟩) (l.length + 1) cap4) (r' := .int .i64 room) ?_ (Fr.mono (S := fun b => b = br) (by (repeat (first | (with_reducible exact Fr.refl _ _) | (with_reducible assumption) | (with_reducible exact Fr.of_nil (by assumption)) | (with_reducible refine Fr.drew ?_) | (with_reducible refine Fr.drewN ?_ _) | (with_reducible refine Fr.alloc ?_ _) | (with_reducible refine Fr.set ?_ _ _ (by first | (intros; omega) | (simp; done) | (simp; omega))) | (with_reducible refine Fr.via ?_ (by assumption)) | (with_reducible refine Fr.comp ?_ (by assumption))))) (fun b _ q => .inl q)) (fun b e => .inr ?_)
      · (unfold Blk; simp (disch := first | omega | (simp; done) | (simp; omega)) only [hp_drew, hp_drewN, hp_alloc, hp_other, hp_same, hp_new, upd_cells, Option.map_some, (t4).eq])
        simp
      · have e' : g4 = b := by simpa [Value.ownBlock] using e
        have := HLT4.out g4 rfl
        omega
end
end Go.Proofs.Ytncncoakibilcaa
