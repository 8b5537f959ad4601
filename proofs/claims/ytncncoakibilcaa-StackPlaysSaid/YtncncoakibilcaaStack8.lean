/-
  Contracts of package stack: List.
-/
import Derived.Test.YtncncoakibilcaaStack5
import Derived.Test.YtncncoakibilcaaStepOwn
import Derived.Deep.RegionWith
import Derived.Lib.SmallJoins
namespace Go.Proofs.Ytncncoakibilcaa
set_option linter.unusedSimpArgs false
set_option linter.unusedVariables false
open Go.RowKit

/-- A slice that is a whole block of numbers, one that X does not name. -/
def IntsB (X : Nat → Prop) (w : World) (v : Value) (l : List Int) : Prop := ∃ b, v = .slice (some ⟨b, 0, none⟩) l.length l.length ∧ Blk w b (ints l) 2 ∧ ¬ X b
theorem IntsB.at {X : Nat → Prop} {w : World} {v : Value} {l : List Int} (h : IntsB X w v l) : IntsAt X w v l := by
  obtain ⟨b, rfl, h1, h2⟩ := h
  exact IntsAt.of_blk h1 h2 _
theorem IntsB.fr {X S : Nat → Prop} {w w1 : World} {v : Value} {l : List Int} (h : IntsB X w v l) (f : Fr S w w1) (hs : ∀ b, b < w.heap.size → S b → X b) : IntsB X w1 v l := by
  obtain ⟨b, rfl, h1, h2⟩ := h
  exact ⟨b, rfl, f.blk h1 (fun q => h2 (hs b h1.lt q)), h2⟩
theorem IntsB.mono {X Y : Nat → Prop} {w : World} {v : Value} {l : List Int} (h : IntsB X w v l) (hs : ∀ b, b < w.heap.size → Y b → X b) : IntsB Y w v l := by
  obtain ⟨b, rfl, h1, h2⟩ := h
  exact ⟨b, rfl, h1, fun q => h2 (hs b h1.lt q)⟩
/-- The cells of frames whose words are such blocks. -/
def CellsB (X : Nat → Prop) (w : World) (cs : List Value) (l : List FrameV) : Prop :=
  cs.length = l.length * 3 ∧ ∀ i f, l[i]? = some f → cs[i * 3]? = some (.int .i64 f.kind) ∧ cs[i * 3 + 1]? = some (.int .i64 f.node) ∧ ∃ v, cs[i * 3 + 2]? = some v ∧ IntsB X w v f.words
theorem CellsB.fr {X S : Nat → Prop} {w w1 : World} {cs : List Value} {l : List FrameV} (h : CellsB X w cs l) (f : Fr S w w1) (hs : ∀ b, b < w.heap.size → S b → X b) : CellsB X w1 cs l :=
  ⟨h.1, fun i g hg => by
    obtain ⟨h1, h2, v, h3, h4⟩ := h.2 i g hg
    exact ⟨h1, h2, v, h3, h4.fr f hs⟩⟩
theorem CellsB.mono {X Y : Nat → Prop} {w : World} {cs : List Value} {l : List FrameV} (h : CellsB X w cs l) (hs : ∀ b, b < w.heap.size → Y b → X b) : CellsB Y w cs l :=
  ⟨h.1, fun i g hg => by
    obtain ⟨h1, h2, v, h3, h4⟩ := h.2 i g hg
    exact ⟨h1, h2, v, h3, h4.mono hs⟩⟩
theorem CellsB.snoc {X : Nat → Prop} {w : World} {cs : List Value} {l : List FrameV} (h : CellsB X w cs l) {f : FrameV} {v : Value} (hv : IntsB X w v f.words) :
    CellsB X w (cs ++ [.int .i64 f.kind, .int .i64 f.node, v]) (l ++ [f]) := by
  refine ⟨by simp [h.1]; omega, fun i g hg => ?_⟩
  rcases Nat.lt_or_ge i l.length with q | q
  · rw [List.getElem?_append_left q] at hg
    obtain ⟨h1, h2, v', h3, h4⟩ := h.2 i g hg
    have := h.1
    refine ⟨?_, ?_, v', ?_, h4⟩
    · rw [List.getElem?_append_left (by omega)]; exact h1
    · rw [List.getElem?_append_left (by omega)]; exact h2
    · rw [List.getElem?_append_left (by omega)]; exact h3
  · have hi : i = l.length := by
      rcases Nat.lt_or_ge i (l.length + 1) with r | r
      · omega
      · rw [List.getElem?_eq_none (by simp; omega)] at hg; cases hg
    subst hi
    simp at hg
    subst hg
    have := h.1
    refine ⟨?_, ?_, v, ?_, hv⟩
    · rw [List.getElem?_append_right (by omega), show l.length * 3 - cs.length = 0 by omega]; rfl
    · rw [List.getElem?_append_right (by omega), show l.length * 3 + 1 - cs.length = 1 by omega]; rfl
    · rw [List.getElem?_append_right (by omega), show l.length * 3 + 2 - cs.length = 2 by omega]; rfl
def OutX (bo : Nat) (v : Value) : Nat → Prop := fun b => b ≤ bo ∨ v.ownBlock = some b
/-- What is told so far: the variable in block bo, its row. -/
structure Outs (bo : Nat) (w : World) (v : Value) (l : List FrameV) : Prop where
  var : Blk w bo #[v] 29
  ex : ∃ cs, w.ownsRow (bo + 1) 32 3 v l.length cs ∧ CellsB (OutX bo v) w cs l

theorem Fr.grownNil {w w' : World} (h : Fr Nil w w') : w.grownBy w' none :=
  ⟨h.os, h.tape, h.output, h.size, fun k hk _ => h.block k hk (fun q => q.elim)⟩
theorem outs_more {bo b' : Nat} {w w' : World} {v v' : Value} {l : List FrameV} {cs : List Value} {f : FrameV} (h : w.ownsRow (bo + 1) 32 3 v l.length cs) (hc : CellsB (OutX bo v) w cs l) (hb : Blk w b' (ints f.words) 2) (hX : ¬ OutX bo v b')
    (hown : w'.ownsRow (bo + 1) 32 3 v' (l.length + 1) (cs ++ [.int .i64 f.kind, .int .i64 f.node, .slice (some ⟨b', 0, none⟩) f.words.length f.words.length])) (hg : w.grownBy w' v.ownBlock) (hbl : v'.ownBlock = v.ownBlock ∨ v'.ownBlock = some w.heap.size)
    (s : Blk w' bo #[v] 29) : Outs bo (w'.setCell ⟨bo, 0, none⟩ v') v' (l ++ [f]) := by
  have hf : Fr (fun k => v.ownBlock = some k) w w' := (Fr.refl _ w).grown hg (fun k q _ => q)
  have hY : ∀ b, b < w.heap.size → (OutX bo v b ∨ b = w.heap.size) → OutX bo v b := fun b hb q => q.elim id (fun q => by omega)
  have hv0 : IntsB (OutX bo v) w (.slice (some ⟨b', 0, none⟩) f.words.length f.words.length) f.words := ⟨b', rfl, hb, hX⟩
  have c1 := ((hc.mono hY).fr hf (fun b _ q => .inl (.inr q))).snoc ((IntsB.mono hv0 hY).fr hf (fun b _ q => .inl (.inr q)))
  have c2 : CellsB (OutX bo v') w' _ (l ++ [f]) := c1.mono (fun b _ q => by
    rcases q with q | q
    · exact .inl (.inl q)
    · rcases hbl with e | e
      · rw [e] at q; exact .inl (.inr q)
      · rw [e] at q; cases q; exact .inr rfl)
  have hlt := fun k q => hown.lt k q
  refine ⟨?_, _, ?_, c2.fr (S := fun b => b = bo) ((Fr.refl _ _).set _ _ (fun _ => rfl)) (fun b _ q => .inl (by omega))⟩
  · exact s.put (by simp)
  · have hk := hown.kept (w' := w'.setCell ⟨bo, 0, none⟩ v') (row := some bo) ⟨rfl, rfl, rfl, by simp [World.setCell], fun k hk hne => Below.heap_setCell _ _ _ _ (fun q => hne (by rw [q]))⟩ (.inr (fun q => by have := hlt bo q; omega))
    simpa using hk
set_option maxHeartbeats 1000000 in
/-- 'out = append(out, copied(f))'. -/
theorem list2_any (bo : Nat) (vo : Value) (l : List FrameV) (f : FrameV) (u : Value) (w : World) (hu : IntsAt Nil w u f.words) (hfl : f.words.length ≤ 5000) (hl : l.length ≤ 5000) (h : Outs bo w vo l) :
    Calls Try.prog 31 #[.agg #[.int .i64 f.kind, .int .i64 f.node, u], .pointer (some ⟨bo, 0, none⟩)] w fun e w' =>
      e = .returned (.tuple #[]) ∧ (∃ vo', Outs bo w' vo' (l ++ [f])) ∧ Fr (fun b => bo ≤ b) w w' := by
  obtain ⟨i0, hi, hz0, hz1, hz2⟩ := info_parts infoFrame
  obtain ⟨hv, cs, hown, hcb⟩ := h
  have hbo := hv.lt
  have hlt := fun k q => hown.lt k q
  have HLT := Lib.hid hlt
  clear hlt
  go_enter Try.func31, Try.ntmps31
  go_wp2
  obtain ⟨W, hW⟩ : ∃ W, W = w.alloc (.cells #[.int .i64 f.kind, .int .i64 f.node, u] 32) := ⟨_, rfl⟩
  rw [← hW]
  have fW : Fr Nil w W := by
    rw [hW]; (repeat (first | (with_reducible exact Fr.refl _ _) | (with_reducible assumption) | (with_reducible exact Fr.of_nil (by assumption)) | (with_reducible refine Fr.drew ?_) | (with_reducible refine Fr.drewN ?_ _) | (with_reducible refine Fr.alloc ?_ _) | (with_reducible refine Fr.set ?_ _ _ (by first | (intros; omega) | (simp; done) | (simp; omega))) | (with_reducible refine Fr.via ?_ (by assumption)) | (with_reducible refine Fr.comp ?_ (by assumption))))
  have r1 : Blk W w.heap.size #[.int .i64 f.kind, .int .i64 f.node, u] 32 := by
    rw [hW]; (unfold Blk; simp (disch := first | omega | (simp; done) | (simp; omega)) only [hp_drew, hp_drewN, hp_alloc, hp_other, hp_same, hp_new, upd_cells, Option.map_some])
  have hsW : w.heap.size ≤ W.heap.size := fW.size
  clear hW
  have s1 := fW.blk hv (by simp [Nil])
  have d0 := s1.cell 0
  have p0 := r1.cell 0
  have p1 := r1.cell 1
  have p2 := r1.cell 2
  simp at d0 p0 p1 p2
  have hownW := hown.kept fW.grownNil (by cases vo.ownBlock <;> simp)
  have hcbW := hcb.fr fW (fun _ _ q => q.elim)
  have huW := hu.fr fW (fun _ _ q => q.elim)
  go_region_law (first
    | (refine step_append_own_at rfl (.tmp 3) (.tmp 6) 29 rfl (bo + 1) 32 i0 (.agg #[.int .i64 0, .int .i64 0, .slice none 0 0]) 3 40 Try.underlying29 hi hz0 hz1 hz2 rfl (by decide) vo l.length cs rfl hown5 ⟨w4.heap.size, 0, none⟩ 1 1 [.int .i64 f.kind, .int .i64 f.node, .slice (some ⟨b', 0, none⟩) f.words.length f.words.length] rfl rfl hnew (by simp [Value.oneCell']) (by unfold maxLen; omega) (by omega) (by simp; omega) ?_; intro v' w' hown6 hgrow hblk; obtain ⟨g2, cap2, rfl⟩ := Joins.ownsRow_form hown6 (by omega); have fg := (Fr.refl (fun k => vo.ownBlock = some k) _).grown hgrow (fun k q _ => q); have s6 := fg.blk s5 (fun q => by have := (hown4.lt bo q).1; omega); have d06 := s6.cell 0; have y06 := s6.free 0; have hs6 := s6.lt; simp at d06)
    | (go_simp; go_wp2_with (go_at_call 28; refine (copied_any Nil f u _ (huW.fr (S := Nil) (Fr.refl _ _).drew (fun _ _ q => q.elim)) hfl (fun b q => q.elim)).mono ?_; rintro e w4 ⟨b', rfl, hb4, hsz, f4⟩; have f40 := (Fr.refl Nil W).drew.comp f4; have s4 := f40.blk s1 (by simp [Nil]); have d04 := s4.cell 0; simp at d04; have hs4 := s4.lt; have hown4 := hownW.kept f40.grownNil (by cases vo.ownBlock <;> simp); have hcb4 := hcbW.fr f40 (fun _ _ q => q.elim); have hown5 := hown4.alloc (Obj.cells #[.int .i64 f.kind, .int .i64 f.node, .slice (some ⟨b', 0, none⟩) f.words.length f.words.length] 32); have s5 := s4.alloc (Obj.cells #[.int .i64 f.kind, .int .i64 f.node, .slice (some ⟨b', 0, none⟩) f.words.length f.words.length] 32); have hnew := new3 w4 (.int .i64 f.kind) (.int .i64 f.node) (.slice (some ⟨b', 0, none⟩) f.words.length f.words.length) 32)))
  all_goals
    go_end0
    have hb5 : W.heap.size ≤ b' := hsz
    have fA := f40.alloc (Obj.cells #[.int .i64 f.kind, .int .i64 f.node, .slice (some ⟨b', 0, none⟩) f.words.length f.words.length] 32)
    refine ⟨rfl, ⟨_, outs_more hown5 (hcb4.fr ((Fr.refl Nil _).alloc _) (fun _ _ q => q.elim)) (hb4.alloc _) (fun q => ?_) hown6 hgrow hblk s6⟩, ?_⟩
    · rcases q with q | q
      · omega
      · have := (HLT.out b' q).2
        omega
    · have f1 := (Fr.of_nil (S := fun b => bo ≤ b) (fW.comp fA)).trans fg (fun k hk q => by have := (HLT.out k q).1; omega) 
      exact f1.set _ _ (fun _ => Nat.le_refl _)
theorem FramesAt.form {X : Nat → Prop} {w : World} {v : Value} {l : List FrameV} (h : FramesAt X w v l) : ∃ ao cap, v = .slice ao l.length cap := by
  rcases h with ⟨rfl, rfl⟩ | ⟨g, cap, cs, rfl, _⟩
  · exact ⟨_, _, rfl⟩
  · exact ⟨_, _, rfl⟩
/-- 'each': out is told of each frame. -/
theorem list1_any (bo bx bs : Nat) (v : Value) (l : List FrameV) (w : World) (h : FramesAt (fun b => bo ≤ b) w v l) (hbs : bs < bo) (hbx : bx < bo) (hx : w.cell? ⟨bx, 0, none⟩ = some (.pointer (some ⟨bs, 0, none⟩))) (hs : w.cell? ⟨bs, 0, none⟩ = some v)
    (hl : l.length ≤ 5000) (hw : ∀ f ∈ l, f.words.length ≤ 5000) (ho : Outs bo w (.slice none 0 0) []) :
    Calls Try.prog 30 #[.func (.func 31) #[] #[.pointer (some ⟨bo, 0, none⟩)], .pointer (some ⟨bx, 0, none⟩)] w fun e w' =>
      e = .returned (.tuple #[]) ∧ (∃ vo', Outs bo w' vo' l) ∧ Fr (fun b => bo ≤ b) w w' := by
  obtain ⟨ao, cap, rfl⟩ := h.form
  have hbw : bo < w.heap.size := ho.var.lt
  go_enter Try.func30, Try.ntmps30
  go_wp2_with fail
  go_loopw [10] (fun i wr => ∃ j : Nat, j ≤ l.length ∧ i = .int .i64 j ∧ (∃ vo, Outs bo wr vo (l.take j)) ∧ Fr (fun b => bo ≤ b) w wr) (fun i _ => l.length - (intOf i).toNat)
  case atStart => exact ⟨0, Nat.zero_le _, rfl, ⟨_, ho⟩, Fr.refl _ _⟩
  case round =>
    obtain ⟨j, hj, rfl, ⟨vo, hout⟩, hf⟩ := hrel
    clear ho
    by_cases hlt : j < l.length
    · obtain ⟨f, hfj⟩ : ∃ f, l[j]? = some f := ⟨_, List.getElem?_eq_getElem hlt⟩
      obtain ⟨g, cap', u, e, _, hcap, c0, c1, c2, hu⟩ := (h.fr hf (fun _ _ q => q)).at hfj
      cases e
      have hu' := hu
      obtain ⟨au, cu, rfl, _⟩ := hu'
      have b1 : (0 : Int) ≤ (j : Int) := by omega
      have b2 : (j : Int) < (l.length : Int) := by omega
      have hfl := hw f (List.mem_of_getElem? hfj)
      have hg : g < wr.heap.size := World.block_lt_of_cell? _ _ c0
      have htk : l.take j ++ [f] = l.take (j + 1) := by
        rw [List.take_succ_eq_append_getElem hlt]
        rw [List.getElem?_eq_getElem hlt] at hfj
        rw [Option.some.inj hfj]
      have hll : (l.take j).length ≤ 5000 := by simp; omega
      have hob := hout.var.lt
      have hff : Fr Nil wr (wr.alloc (.cells #[.int .i64 f.kind, .int .i64 f.node, .slice au f.words.length cu] 32)) := (Fr.refl _ _).alloc _
      obtain ⟨hv, cs, hown, hcb⟩ := hout
      have hout2 : Outs bo (wr.alloc (.cells #[.int .i64 f.kind, .int .i64 f.node, .slice au f.words.length cu] 32)) vo (l.take j) := ⟨hff.blk hv (by simp [Nil]), cs, hown.kept hff.grownNil (by cases vo.ownBlock <;> simp), hcb.fr hff (fun _ _ q => q.elim)⟩
      have hu2 : IntsAt Nil (wr.alloc (.cells #[.int .i64 f.kind, .int .i64 f.node, .slice au f.words.length cu] 32)) (.slice au f.words.length cu) f.words := (hu.fr (S := Nil) hff (fun _ _ q => q.elim)).mono (fun _ _ q => (show False from q).elim)
      clear h hw hown hcb hv hfj
      have HO := Lib.hid (And.intro hout2 hu2)
      clear hout2 hu2
      go_wp2_with fail
      refine (list2_any bo vo (l.take j) f _ _ HO.out.2 hfl hll HO.out.1).mono ?_
      rintro e w2 ⟨rfl, ⟨vo', ho2⟩, f2⟩
      rw [htk] at ho2
      have hf2 := (hf.alloc _).comp f2
      clear HO f2 hf
      go_wp2
      go_roundw
      case rel => exact ⟨j + 1, by omega, by go_num, ⟨vo', ho2⟩, hf2⟩
      case measure => simp [intOf]; omega
    · have : j = l.length := by omega
      subst this
      rw [List.take_length] at hout
      clear h hw
      go_wp2
      go_end0
      exact ⟨rfl, ⟨vo, hout⟩, hf⟩
/-- All frames, each with words of its own. -/
theorem list_any (X : Nat → Prop) (bs : Nat) (l : List FrameV) (room todo : Nat) (w : World) (h : StackAt X w bs l room todo) :
    Calls Try.prog 20 #[.pointer (some ⟨bs, 0, none⟩)] w fun e w' =>
      ∃ vo, e = .returned vo ∧ Outs (w.heap.size + 1) w' vo l ∧ Fr Nil w w' := by
  have hbs := h.lt
  have hll : l.length ≤ 5000 := by have := usedOf_len l; have := h.hused; have := h.hroom; omega
  have hww := h.hwords
  obtain ⟨⟨v, h1, h2⟩, h3, _⟩ := h
  obtain ⟨W, hW⟩ : ∃ W, W = (w.alloc (.cells #[.pointer (some ⟨bs, 0, none⟩)] 25)).alloc (.cells #[.slice none 0 0] 29) := ⟨_, rfl⟩
  have fW : Fr Nil w W := by
    rw [hW]; (repeat (first | (with_reducible exact Fr.refl _ _) | (with_reducible assumption) | (with_reducible exact Fr.of_nil (by assumption)) | (with_reducible refine Fr.drew ?_) | (with_reducible refine Fr.drewN ?_ _) | (with_reducible refine Fr.alloc ?_ _) | (with_reducible refine Fr.set ?_ _ _ (by first | (intros; omega) | (simp; done) | (simp; omega))) | (with_reducible refine Fr.via ?_ (by assumption)) | (with_reducible refine Fr.comp ?_ (by assumption))))
  have r0 : Blk W w.heap.size #[.pointer (some ⟨bs, 0, none⟩)] 25 := by
    rw [hW]; (unfold Blk; simp (disch := first | omega | (simp; done) | (simp; omega)) only [hp_drew, hp_drewN, hp_alloc, hp_other, hp_same, hp_new, upd_cells, Option.map_some])
  have r1 : Blk W (w.heap.size + 1) #[.slice none 0 0] 29 := by
    rw [hW]; (unfold Blk; simp (disch := first | omega | (simp; done) | (simp; omega)) only [hp_drew, hp_drewN, hp_alloc, hp_other, hp_same, hp_new, upd_cells, Option.map_some])
  have c0 := (fW.blk h1 (by simp [Nil])).cell 0
  have x0 := r0.cell 0
  simp at c0 x0
  have hF : FramesAt (fun b => w.heap.size + 1 ≤ b) W v l := (h2.mono (Y := fun b => w.heap.size + 1 ≤ b) (fun b hb q => by omega)).fr fW (fun _ _ q => q.elim)
  have hO : Outs (w.heap.size + 1) W (.slice none 0 0) [] := ⟨r1, [], World.ownsRow_nil W _ _ _, ⟨rfl, fun i f hf => by simp at hf⟩⟩
  have HF := Lib.hid hF
  have HO := Lib.hid hO
  clear hF hO h1 h2
  go_enter Try.func20, Try.ntmps20
  go_wp2_with fail
  rw [← hW]
  refine (list1_any (w.heap.size + 1) w.heap.size bs v l W HF.out (by omega) (by omega) x0 c0 hll hww HO.out).mono ?_
  rintro e w2 ⟨rfl, ⟨vo, ho⟩, f2⟩
  have d0 := ho.var.cell 0
  simp at d0
  have hf : Fr Nil w w2 := fW.trans f2 (fun k hk q => by omega)
  clear hW fW r0 r1 c0 x0 HF HO f2
  go_wp2
  go_ret
  exact ⟨vo, rfl, ho, hf⟩
end Go.Proofs.Ytncncoakibilcaa
