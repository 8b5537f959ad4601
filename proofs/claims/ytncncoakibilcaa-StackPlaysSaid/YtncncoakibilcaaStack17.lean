/-
  Two rows of frames compared. No conditions.
-/
import Derived.Test.YtncncoakibilcaaStack16
namespace Go.Proofs.Ytncncoakibilcaa
set_option linter.unusedSimpArgs false
set_option linter.unusedVariables false
open Go.RowKit

theorem CellsB.cells3 {X : Nat → Prop} {w : World} {cs : List Value} {l : List FrameV} (h : CellsB X w cs l) : Cells3 X w cs l :=
  ⟨h.1, fun i f hf => by
    obtain ⟨h1, h2, v, h3, h4⟩ := h.2 i f hf
    exact ⟨h1, h2, v, h3, h4.at⟩⟩
theorem Outs.frames {bo : Nat} {w : World} {v : Value} {l : List FrameV} (h : Outs bo w v l) : FramesAt Nil w v l := by
  obtain ⟨h1, cs, h2, h3⟩ := h
  have hc := (h3.cells3).mono (Y := Nil) (fun _ _ q => (show False from q).elim)
  rcases owns_shape h2 with ⟨a, cap, rfl⟩
  rcases h2.2 with ⟨e, h0⟩ | ⟨g, cap', cur, e, hg, hh, hn, hm, hs, ht⟩
  · exact .inl ⟨e, List.eq_nil_of_length_eq_zero h0⟩
  · cases e
    exact FramesAt.of_owns h2 rfl hc (fun b q => (show False from q).elim)
set_option maxHeartbeats 1000000 in
theorem same_list (l : List FrameV) (a b : Value) (w : World) (ha : FramesAt Nil w a l) (hb : FramesAt Nil w b l) (hl : l.length ≤ 5000) (hw : ∀ f ∈ l, f.words.length ≤ 5000) :
    Calls Try.prog 26 #[a, b] w fun e w' => e = .returned (.bool true) ∧ Fr Nil w w' := by
  obtain ⟨aa, ca, rfl⟩ := ha.form
  obtain ⟨ab, cb, rfl⟩ := hb.form
  have HA := Lib.hid ha
  have HB := Lib.hid hb
  have HW := Lib.hid hw
  have ht : (l.length != l.length) = false := by simp
  clear ha hb hw
  go_enter Try.func26, Try.ntmps26
  go_wp2_with fail
  go_loopw [5] (fun i wr => ∃ j : Nat, j ≤ l.length ∧ i = .int .i64 j ∧ Fr Nil w wr) (fun i _ => l.length - (intOf i).toNat)
  case atStart => exact ⟨0, Nat.zero_le _, rfl, Fr.refl _ _⟩
  case round =>
    obtain ⟨j, hj, rfl, hf⟩ := hrel
    by_cases hlt : j < l.length
    · obtain ⟨f, hfj⟩ : ∃ f, l[j]? = some f := ⟨_, List.getElem?_eq_getElem hlt⟩
      obtain ⟨g, c1, u, e, _, _, p0, p1, p2, hu⟩ := (HA.out.fr hf (fun _ _ q => q.elim)).at hfj
      cases e
      obtain ⟨g', c2, u', e, _, _, q0, q1, q2, hu'⟩ := (HB.out.fr hf (fun _ _ q => q.elim)).at hfj
      cases e
      have hfl := HW.out f (List.mem_of_getElem? hfj)
      have HU := Lib.hid hu
      have HU' := Lib.hid hu'
      have b1 : (0 : Int) ≤ (j : Int) := by omega
      have b2 : (j : Int) < (l.length : Int) := by omega
      obtain ⟨au, cu, rfl, _⟩ := hu
      obtain ⟨au', cu', rfl, _⟩ := hu'
      clear hfj
      go_wp2
      apply wp_via (F := fun V => Fr Nil w V)
      · go_region_held3 (fun w' => w'.cell? ⟨g, j * 3, none⟩ = some (.int .i64 f.kind) ∧ w'.cell? ⟨g, j * 3 + 1, none⟩ = some (.int .i64 f.node) ∧ w'.cell? ⟨g, j * 3 + 2, none⟩ = some (.slice au f.words.length cu) ∧ w'.cell? ⟨g', j * 3, none⟩ = some (.int .i64 f.kind) ∧ w'.cell? ⟨g', j * 3 + 1, none⟩ = some (.int .i64 f.node) ∧ w'.cell? ⟨g', j * 3 + 2, none⟩ = some (.slice au' f.words.length cu')) (first | go_keep | exact ⟨r0, r1, r2, s0, s1, s2⟩) (first
          | (go_at_call 14; refine (same_yes Nil f _ _ _ (HU.out.fr (S := Nil) (by (repeat (first | (with_reducible exact Fr.refl _ _) | (with_reducible assumption) | (with_reducible exact Fr.of_nil (by assumption)) | (with_reducible refine Fr.drew ?_) | (with_reducible refine Fr.drewN ?_ _) | (with_reducible refine Fr.alloc ?_ _) | (with_reducible refine Fr.set ?_ _ _ (by first | (intros; omega) | (simp; done) | (simp; omega))) | (with_reducible refine Fr.via ?_ (by assumption)) | (with_reducible refine Fr.comp ?_ (by assumption))))) (fun _ _ q => q.elim)) (HU'.out.fr (S := Nil) (by (repeat (first | (with_reducible exact Fr.refl _ _) | (with_reducible assumption) | (with_reducible exact Fr.of_nil (by assumption)) | (with_reducible refine Fr.drew ?_) | (with_reducible refine Fr.drewN ?_ _) | (with_reducible refine Fr.alloc ?_ _) | (with_reducible refine Fr.set ?_ _ _ (by first | (intros; omega) | (simp; done) | (simp; omega))) | (with_reducible refine Fr.via ?_ (by assumption)) | (with_reducible refine Fr.comp ?_ (by assumption))))) (fun _ _ q => q.elim)) hfl).mono ?_; rintro e w2 ⟨rfl, f2⟩; have r0 := f2.cell (a := ⟨g, j * 3, none⟩) p0 (by simp [Nil]); have r1 := f2.cell (a := ⟨g, j * 3 + 1, none⟩) p1 (by simp [Nil]); have r2 := f2.cell (a := ⟨g, j * 3 + 2, none⟩) p2 (by simp [Nil]); have s0 := f2.cell (a := ⟨g', j * 3, none⟩) q0 (by simp [Nil]); have s1 := f2.cell (a := ⟨g', j * 3 + 1, none⟩) q1 (by simp [Nil]); have s2 := f2.cell (a := ⟨g', j * 3 + 2, none⟩) q2 (by simp [Nil])))
        all_goals
          refine Via.mk ?_
          (repeat (first | (with_reducible exact Fr.refl _ _) | (with_reducible assumption) | (with_reducible exact Fr.of_nil (by assumption)) | (with_reducible refine Fr.drew ?_) | (with_reducible refine Fr.drewN ?_ _) | (with_reducible refine Fr.alloc ?_ _) | (with_reducible refine Fr.set ?_ _ _ (by first | (intros; omega) | (simp; done) | (simp; omega))) | (with_reducible refine Fr.via ?_ (by assumption)) | (with_reducible refine Fr.comp ?_ (by assumption))))
      rintro V fV
      clear p0 p1 p2 q0 q1 q2 hf
      go_wp2
      go_roundw
      case rel => exact ⟨j + 1, by omega, by go_num, fV⟩
      case measure => simp [intOf]; omega
    · go_wp2
      go_ret
      exact ⟨rfl, hf⟩
end Go.Proofs.Ytncncoakibilcaa
