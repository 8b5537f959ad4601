/-
  Contracts of package stack: size, copied, New.
-/
import Derived.Test.YtncncoakibilcaaRows
import Derived.Test.YtncncoakibilcaaFrames
import Derived.Laws.CopyOwn
import Derived.Deep.QuietTactic
import Derived.BigQuiet
import Derived.RegionTactic
namespace Go.Proofs.Ytncncoakibilcaa
set_option linter.unusedSimpArgs false
set_option linter.unusedVariables false
open Go.RowKit

theorem infoInt : (Try.prog.info? 2).map (fun i => (i.zero, i.size, i.bytes)) = some (some (.int .i64 0), 1, 8) := by kernel_rfl
theorem sizeInt : (Try.prog.info? 2).map (·.size) = some 1 := by kernel_rfl
theorem size_any (X : Nat → Prop) (f : FrameV) (v : Value) (w : World) (hv : IntsAt X w v f.words) (hl : f.words.length ≤ 5000) :
    Calls Try.prog 27 #[.agg #[.int .i64 f.kind, .int .i64 f.node, v]] w fun e w' => e = .returned (.int .i64 (f.words.length + 2 : Nat)) ∧ Fr Nil w w' := by
  obtain ⟨a, cap, rfl, _⟩ := hv
  go_enter Try.func27, Try.ntmps27
  go_wp2
  go_ret
  exact ⟨ret1_int (by omega), by (repeat (first | (with_reducible exact Fr.refl _ _) | (with_reducible assumption) | (with_reducible exact Fr.of_nil (by assumption)) | (with_reducible refine Fr.drew ?_) | (with_reducible refine Fr.drewN ?_ _) | (with_reducible refine Fr.alloc ?_ _) | (with_reducible refine Fr.set ?_ _ _ (by first | (intros; omega) | (simp; done) | (simp; omega))) | (with_reducible refine Fr.via ?_ (by assumption)) | (with_reducible refine Fr.comp ?_ (by assumption))))⟩
theorem copied_any (X : Nat → Prop) (f : FrameV) (v : Value) (w : World) (hv : IntsAt X w v f.words) (hl : f.words.length ≤ 5000) (hX : ∀ b, X b → b < w.heap.size) :
    Calls Try.prog 28 #[.agg #[.int .i64 f.kind, .int .i64 f.node, v]] w fun e w' =>
      ∃ b', e = .returned (.agg #[.int .i64 f.kind, .int .i64 f.node, .slice (some ⟨b', 0, none⟩) f.words.length f.words.length]) ∧ Blk w' b' (ints f.words) 2 ∧ w.heap.size ≤ b' ∧ Fr Nil w w' := by
  obtain ⟨a, cap, rfl, hcells⟩ := hv
  obtain ⟨kd, nd, l⟩ := f
  simp only [] at hl hcells
  have hmk := fun w => run_make_ints w 30 2 Try.underlying30 infoInt l.length (by omega)
  obtain ⟨w1, hw1⟩ : ∃ w1, w1 = (w.alloc (.cells #[.int .i64 kd, .int .i64 nd, .slice a l.length cap] 32)).alloc (.cells #[.int .i64 0, .int .i64 0, .slice none 0 0] 32) := ⟨_, rfl⟩
  have g1 : Blk w1 w.heap.size #[.int .i64 kd, .int .i64 nd, .slice a l.length cap] 32 := by rw [hw1]; (unfold Blk; simp (disch := first | omega | (simp; done) | (simp; omega)) only [hp_drew, hp_drewN, hp_alloc, hp_other, hp_same, hp_new, upd_cells, Option.map_some])
  have g2 : Blk w1 (w.heap.size + 1) #[.int .i64 0, .int .i64 0, .slice none 0 0] 32 := by rw [hw1]; (unfold Blk; simp (disch := first | omega | (simp; done) | (simp; omega)) only [hp_drew, hp_drewN, hp_alloc, hp_other, hp_same, hp_new, upd_cells, Option.map_some])
  have hf1 : Fr Nil w w1 := by rw [hw1]; (repeat (first | (with_reducible exact Fr.refl _ _) | (with_reducible assumption) | (with_reducible exact Fr.of_nil (by assumption)) | (with_reducible refine Fr.drew ?_) | (with_reducible refine Fr.drewN ?_ _) | (with_reducible refine Fr.alloc ?_ _) | (with_reducible refine Fr.set ?_ _ _ (by first | (intros; omega) | (simp; done) | (simp; omega))) | (with_reducible refine Fr.via ?_ (by assumption)) | (with_reducible refine Fr.comp ?_ (by assumption))))
  have hs1 : w1.heap.size = w.heap.size + 1 + 1 := by rw [hw1]; simp
  have q0 := g1.cell 2
  simp at q0
  have hb1 := g1.lt
  have g3 := Blk.new w1 (ints (List.replicate l.length 0)) 2
  obtain ⟨Z, hZ⟩ : ∃ Z, Z = (ints (List.replicate l.length 0)).toList := ⟨_, rfl⟩
  obtain ⟨C, hC⟩ : ∃ C, C = (ints l).toList := ⟨_, rfl⟩
  have hZl : Z.length = l.length := by rw [hZ]; simp
  have hCl : C.length = l.length := by rw [hC]; simp
  have hZa : Z.toArray = ints (List.replicate l.length 0) := by rw [hZ]
  have hg : (w1.alloc (.cells Z.toArray 2)).heap[w1.heap.size]? = some (.cells Z.toArray 2 (0, 0)) := by rw [hZa]; exact g3
  have hcp : 0 < C.length → ∃ ad, a = some ad ∧ ∀ j v, C[j]? = some v → (w1.alloc (.cells Z.toArray 2)).cell? (ad.add j) = some v := by
    intro hp
    rw [hCl] at hp
    obtain ⟨b, off, rfl, hx, hcell⟩ := hcells hp
    refine ⟨_, rfl, fun j v hj => ?_⟩
    have hjl : j < l.length := by
      rcases Nat.lt_or_ge j l.length with q | q
      · exact q
      · rw [List.getElem?_eq_none (by omega)] at hj; cases hj
    have hv' : v = .int .i64 (nth l j) := by
      have := ints_at l j hjl
      rw [hC] at hj
      have e : (ints l).toList[j]? = (ints l)[j]? := by simp
      rw [e, this] at hj
      exact (Option.some.inj hj).symm
    rw [add_at, hv']
    exact ((hf1.alloc _).cell (hcell j hjl) (by simp [Nil]))
  have h1c : ∀ u ∈ C, u.oneCell' = true := by
    intro u hu
    rw [hC] at hu
    simp [ints] at hu
    obtain ⟨x, _, rfl⟩ := hu
    rfl
  have hmk1 : (Instr.makeSlice 30 (.int .i64 (l.length : Int)) (.int .i64 (l.length : Int))).run Try.prog w1 = .ok (.slice (some ⟨w1.heap.size, 0, none⟩) l.length l.length) (w1.alloc (.cells Z.toArray 2)) := by rw [hZa]; exact hmk w1
  have hcn : C.length = Nat.min l.length l.length := by rw [hCl]; simp
  have hfit : 0 + C.length ≤ Z.length := by omega
  have hbel : Below w1.heap.size w1 (w1.alloc (.cells Z.toArray 2)) := (Below.refl _ _).alloc (Nat.le_refl _) _
  have HC := Lib.hid hC
  have hmk2 : ∀ w, (Instr.makeSlice 30 (.int .i64 (l.length : Int)) (.int .i64 (l.length : Int))).run Try.prog w = .ok (.slice (some ⟨w.heap.size, 0, none⟩) l.length l.length) (w.alloc (.cells Z.toArray 2)) := fun w => by rw [hZa]; exact hmk w
  have hZC : Z.length = C.length := by omega
  clear hmk hmk1 hC hZ hZa hCl g3 hZl
  rw [hs1] at hg hbel
  have hfz : Fr Nil w (w1.alloc (.cells Z.toArray 2)) := hf1.alloc _
  have g1z := g1.alloc (.cells Z.toArray 2)
  have g2z := g2.alloc (.cells Z.toArray 2)
  have hsz : (w1.alloc (.cells Z.toArray 2)).heap.size = w.heap.size + 1 + 1 + 1 := by simp [hs1]
  have hsp : splice Z 0 C = C := by
    simp [splice, hZC]
  have HSP := Lib.hid hsp
  clear hsp hZC
  clear hs1
  subst hw1
  have HCP := Lib.hid hcp
  have H1C := Lib.hid h1c
  clear hcp h1c
  go_enter Try.func28, Try.ntmps28
  go_wp2_with ((with_reducible show wpList _ _ _ (⟨some 11, _, _, _, _, _⟩ :: _) _ _); refine wpList_copy_splice (by rfl) (.tmp 8) (.tmp 10) 30 30 (by rfl) 2 Try.underlying30 sizeInt (some ⟨w.heap.size + 1 + 1, 0, none⟩) a l.length l.length l.length cap (by rfl) (by rfl) (w.heap.size + 1 + 1) 0 Z 2 hg C hcn (fun hp => ⟨rfl, HCP.out hp⟩) hfit H1C.out (w.heap.size + 1 + 1) _ hbel (Nat.le_refl _) ?_)
  intro w2 HG2 hb2
  have hb2' := hb2
  have k1 : Blk w2 w.heap.size #[.int .i64 kd, .int .i64 nd, .slice a l.length cap] 32 := (hb2.block _ (by omega)).trans g1
  have k2 : Blk w2 (w.heap.size + 1) #[.int .i64 0, .int .i64 0, .slice none 0 0] 32 := (hb2.block _ (by omega)).trans g2
  have k3 : Blk w2 (w.heap.size + 1 + 1) (ints l) 2 := by
    have := HG2.out
    rw [HSP.out, HC.out] at this
    exact this
  have hf2 : Fr Nil w w2 := by
    refine ⟨hb2.os.trans hf1.os, hb2.tape.trans hf1.tape, hb2.output.trans hf1.output, Nat.le_trans hf1.size hb2.size, fun k hk _ => (hb2.block k (by omega)).trans (hf1.block k hk (by simp [Nil]))⟩
  clear HG2 hb2 hb2' g1 g2 hg hbel hf1 HC HSP HCP H1C g1z g2z hfz hsz q0 hb1 hmk2
  have c0 := k1.cell 0
  have c1 := k1.cell 1
  have c2 := k1.cell 2
  have d0 := k2.cell 0
  have d1 := k2.cell 1
  have d2 := k2.cell 2
  have z2 := k1.free 2
  have y0 := k2.free 0
  have y1 := k2.free 1
  have y2 := k2.free 2
  have s2 := k3.lt
  simp at c0 c1 c2 d0 d1 d2
  go_wp2
  refine bodyPost_ret (v := .agg #[.int .i64 kd, .int .i64 nd, .slice (some ⟨w.heap.size + 1 + 1, 0, none⟩) l.length l.length]) (by simp [results, Try.results28, go_sem, d0, d1, d2]) rfl ⟨_, rfl, ?_, ?_, ?_⟩
  · (unfold Blk; simp (disch := first | omega | (simp; done) | (simp; omega)) only [hp_drew, hp_drewN, hp_alloc, hp_other, hp_same, hp_new, upd_cells, Option.map_some, (k3).eq])
  · omega
  · (repeat (first | (with_reducible exact Fr.refl _ _) | (with_reducible assumption) | (with_reducible exact Fr.of_nil (by assumption)) | (with_reducible refine Fr.drew ?_) | (with_reducible refine Fr.drewN ?_ _) | (with_reducible refine Fr.alloc ?_ _) | (with_reducible refine Fr.set ?_ _ _ (by first | (intros; omega) | (simp; done) | (simp; omega))) | (with_reducible refine Fr.via ?_ (by assumption)) | (with_reducible refine Fr.comp ?_ (by assumption))))
end Go.Proofs.Ytncncoakibilcaa
