/-
  A call, as both stacks take it. No conditions.
-/
import Derived.Test.YtncncoakibilcaaStack14
import Derived.Test.YtncncoakibilcaaStack15
namespace Go.Proofs.Ytncncoakibilcaa
set_option linter.unusedSimpArgs false
set_option linter.unusedVariables false
open Go.RowKit

def tv0 (e : Int) : TV := ⟨noF, false, false, e⟩
/-- What a call makes of the frames, how many are to be scanned, what is told. -/
inductive StepS (room : Nat) (x : ActF) : List FrameV → Nat → List FrameV → Nat → TV → Prop
  | pushIn {l td} (h : x.kind = 0) (hin : usedOf l + (x.f.words.length + 2) ≤ room) : StepS room x l td (l ++ [x.f]) td (tv0 0)
  | pushOut {l td} (h : x.kind = 0) (hout : room < usedOf l + (x.f.words.length + 2)) : StepS room x l td l td (tv0 13)
  | popNone {td} (h : x.kind = 1) : StepS room x [] td [] td (tv0 0)
  | popSome {l td k f} (h : x.kind = 1) (hk : l[k]? = some f) (hkl : l.length = k + 1) : StepS room x l td (l.take k) (min td k) ⟨f, decide (k < td), true, 0⟩
  | topNone {td} (h : x.kind = 2) : StepS room x [] td [] td (tv0 0)
  | topSome {l td k f} (h : x.kind = 2) (hk : l[k]? = some f) (hkl : l.length = k + 1) : StepS room x l td l td ⟨f, false, true, 0⟩
  | begin_ {l td} (h : x.kind = 3) : StepS room x l td l l.length (tv0 0)
  | scanNone {l} (h0 : x.kind ≠ 0) (h1 : x.kind ≠ 1) (h2 : x.kind ≠ 2) (h3 : x.kind ≠ 3) : StepS room x l 0 l 0 (tv0 0)
  | scanSome {l k f} (h0 : x.kind ≠ 0) (h1 : x.kind ≠ 1) (h2 : x.kind ≠ 2) (h3 : x.kind ≠ 3) (hk : l[k]? = some f) : StepS room x l (k + 1) l k ⟨f, false, true, 0⟩
theorem stepS_ex (room : Nat) (x : ActF) (l : List FrameV) (td : Nat) (htd : td ≤ l.length) : ∃ l' td' tv, StepS room x l td l' td' tv := by
  have last : l = [] ∨ ∃ k f, l[k]? = some f ∧ l.length = k + 1 := by
    rcases List.eq_nil_or_concat l with rfl | ⟨l', y, rfl⟩
    · exact .inl rfl
    · exact .inr ⟨l'.length, y, by simp, by simp⟩
  by_cases h0 : x.kind = 0
  · by_cases hin : usedOf l + (x.f.words.length + 2) ≤ room
    · exact ⟨_, _, _, .pushIn h0 hin⟩
    · exact ⟨_, _, _, .pushOut h0 (by omega)⟩
  · by_cases h1 : x.kind = 1
    · rcases last with rfl | ⟨k, f, hk, hkl⟩
      · exact ⟨_, _, _, .popNone h1⟩
      · exact ⟨_, _, _, .popSome h1 hk hkl⟩
    · by_cases h2 : x.kind = 2
      · rcases last with rfl | ⟨k, f, hk, hkl⟩
        · exact ⟨_, _, _, .topNone h2⟩
        · exact ⟨_, _, _, .topSome h2 hk hkl⟩
      · by_cases h3 : x.kind = 3
        · exact ⟨_, _, _, .begin_ h3⟩
        · cases td with
          | zero => exact ⟨_, _, _, .scanNone h0 h1 h2 h3⟩
          | succ k => exact ⟨_, _, _, .scanSome h0 h1 h2 h3 (List.getElem?_eq_getElem (by omega))⟩
theorem IntsAt.noF (X : Nat → Prop) (w : World) (e : Int) : IntsAt X w (.slice none 0 0) (tv0 e).f.words := IntsAt.nil X w
theorem IntsAt.fresh {X : Nat → Prop} {w' : World} {b n : Nat} {l : List Int} (hX : ∀ b, X b → b < n) (h : Blk w' b (ints l) 2) (hb : n ≤ b) : IntsAt X w' (.slice (some ⟨b, 0, none⟩) l.length l.length) l :=
  IntsAt.of_blk h (fun q => by have := hX b q; omega) _

section
variable (X : Nat → Prop) (bs br : Nat) (l : List FrameV) (room td : Nat) (w : World) (x : ActF) (u : Value) (l' : List FrameV) (td' : Nat) (tv : TV)
theorem do_any (hs : StepS room x l td l' td' tv) (hu : IntsAt X w u x.f.words) (hxl : x.f.words.length ≤ 5000) (hX : ∀ b, X b → b < w.heap.size) (h : StackAt X w bs l room td) :
    Calls Try.prog 18 #[.pointer (some ⟨bs, 0, none⟩), .agg #[.int .i64 x.kind, .int .i64 x.f.kind, .int .i64 x.f.node, u]] w fun e w' =>
      ∃ vf, e = .returned (toldV tv vf) ∧ IntsAt X w' vf tv.f.words ∧ StackAt X w' bs l' room td' ∧ Fr (fun b => b = bs) w w' := by
  have hbs := h.lt
  have nil : ∀ w', Fr Nil w w' → StackAt X w' bs l room td ∧ Fr (fun b => b = bs) w w' := fun w' f => ⟨h.fr f (fun _ _ q => q.elim) (by simp [Nil]), f.of_nil⟩
  cases hs with
  | pushIn h0 hin => rw [h0]; exact (do_push_in X bs l room td w x.f u hu hxl hin hX h).mono fun e w' ⟨a, b, c⟩ => ⟨_, a, IntsAt.noF _ _ _, b, c⟩
  | pushOut h0 hout => rw [h0]; exact (do_push_out X bs l room td w x.f u hu hxl hout h).mono fun e w' ⟨a, b⟩ => ⟨_, a, IntsAt.noF _ _ _, nil w' b⟩
  | popNone h0 => rw [h0]; exact (do_pop_none X bs room td w x.f u h).mono fun e w' ⟨a, b⟩ => ⟨_, a, IntsAt.noF _ _ _, nil w' b⟩
  | popSome h0 hk hkl => rw [h0]; exact (do_pop_some X bs l room td w x.f u _ _ hk hkl hX h).mono fun e w' ⟨b', a, b, c, d, f⟩ => ⟨_, a, IntsAt.fresh hX b c, d, f⟩
  | topNone h0 => rw [h0]; exact (do_top_none X bs room td w x.f u h).mono fun e w' ⟨a, b⟩ => ⟨_, a, IntsAt.noF _ _ _, nil w' b⟩
  | topSome h0 hk hkl => rw [h0]; exact (do_top_some X bs l room td w x.f u _ _ hk hkl hX h).mono fun e w' ⟨b', a, b, c, f⟩ => ⟨_, a, IntsAt.fresh hX b c, nil w' f⟩
  | begin_ h0 => rw [h0]; exact (do_begin X bs l room td w x.f u hX h).mono fun e w' ⟨a, b, c⟩ => ⟨_, a, IntsAt.noF _ _ _, b, c⟩
  | scanNone h0 h1 h2 h3 => exact (do_scan_none X bs l room w x.f u x.kind h0 h1 h2 h3 h).mono fun e w' ⟨a, b⟩ => ⟨_, a, IntsAt.noF _ _ _, nil w' b⟩
  | scanSome h0 h1 h2 h3 hk => exact (do_scan_some X bs l room w x.f u x.kind h0 h1 h2 h3 _ _ hk hX h).mono fun e w' ⟨b', a, b, c, d, f⟩ => ⟨_, a, IntsAt.fresh hX b c, d, f⟩
theorem rdo_any (hs : StepS room x l td l' td' tv) (hu : IntsAt (fun b => X b ∨ b = br) w u x.f.words) (hxl : x.f.words.length ≤ 5000) (hX : ∀ b, X b → b < w.heap.size) (h : RefAt X w br l room td) :
    Calls Try.prog 23 #[.pointer (some ⟨br, 0, none⟩), .agg #[.int .i64 x.kind, .int .i64 x.f.kind, .int .i64 x.f.node, u]] w fun e w' =>
      ∃ vf, e = .returned (toldV tv vf) ∧ IntsAt X w' vf tv.f.words ∧ RefAt X w' br l' room td' ∧ Turn br w w' := by
  have hbr := h.lt
  have nil : ∀ w', Fr Nil w w' → RefAt X w' br l room td ∧ Turn br w w' := fun w' f => ⟨h.fr f (fun _ _ q => q.elim), Turn.of_nil f hbr⟩
  have hu' : ∃ a c, u = .slice a x.f.words.length c := by
    obtain ⟨a, c, rfl, _⟩ := hu
    exact ⟨a, c, rfl⟩
  cases hs with
  | pushIn h0 hin => rw [h0]; exact (rdo_push_in X br l room td w x.f u hu hxl hin hX h).mono fun e w' ⟨a, b, c⟩ => ⟨_, a, IntsAt.noF _ _ _, b, c⟩
  | pushOut h0 hout => rw [h0]; exact (rdo_push_out X br l room td w x.f u hxl hu' hout h).mono fun e w' ⟨a, b⟩ => ⟨_, a, IntsAt.noF _ _ _, nil w' b⟩
  | popNone h0 => rw [h0]; exact (rdo_pop_none X br room td w x.f u h).mono fun e w' ⟨a, b⟩ => ⟨_, a, IntsAt.noF _ _ _, nil w' b⟩
  | popSome h0 hk hkl => rw [h0]; exact (rdo_pop_some X br l room td w x.f u _ _ hk hkl h).mono fun e w' ⟨b', a, b, c, d⟩ => ⟨_, a, b, c, d⟩
  | topNone h0 => rw [h0]; exact (rdo_top_none X br room td w x.f u h).mono fun e w' ⟨a, b⟩ => ⟨_, a, IntsAt.noF _ _ _, nil w' b⟩
  | topSome h0 hk hkl => rw [h0]; exact (rdo_top_some X br l room td w x.f u _ _ hk hkl h).mono fun e w' ⟨b', a, b, c⟩ => ⟨_, a, b, nil w' c⟩
  | begin_ h0 => rw [h0]; exact (rdo_begin X br l room td w x.f u h).mono fun e w' ⟨a, b, c⟩ => ⟨_, a, IntsAt.noF _ _ _, b, c⟩
  | scanNone h0 h1 h2 h3 => exact (rdo_scan_none X br l room w x.f u x.kind h0 h1 h2 h3 h).mono fun e w' ⟨a, b⟩ => ⟨_, a, IntsAt.noF _ _ _, nil w' b⟩
  | scanSome h0 h1 h2 h3 hk => exact (rdo_scan_some X br l room w x.f u x.kind h0 h1 h2 h3 _ _ hk h).mono fun e w' ⟨b', a, b, c, d⟩ => ⟨_, a, b, c, d⟩
end

/-- 'same': what both tell. -/
theorem told_same (X : Nat → Prop) (tv : TV) (u v : Value) (w : World) (hu : IntsAt X w u tv.f.words) (hv : IntsAt X w v tv.f.words) (hl : tv.f.words.length ≤ 5000) :
    Calls Try.prog 22 #[toldV tv u, toldV tv v] w fun e w' => e = .returned (.bool true) ∧ Fr Nil w w' := by
  obtain ⟨au, cu, rfl, hcu⟩ := hu
  obtain ⟨av, cv, rfl, hcv⟩ := hv
  have HU := Lib.hid (show IntsAt X w (.slice au tv.f.words.length cu) tv.f.words from ⟨au, cu, rfl, hcu⟩)
  have HV := Lib.hid (show IntsAt X w (.slice av tv.f.words.length cv) tv.f.words from ⟨av, cv, rfl, hcv⟩)
  clear hcu hcv
  unfold toldV
  go_enter Try.func22, Try.ntmps22
  go_wp2_with fail
  refine (same_yes X tv.f _ _ _ (HU.out.fr (S := Nil) (by (repeat (first | (with_reducible exact Fr.refl _ _) | (with_reducible assumption) | (with_reducible exact Fr.of_nil (by assumption)) | (with_reducible refine Fr.drew ?_) | (with_reducible refine Fr.drewN ?_ _) | (with_reducible refine Fr.alloc ?_ _) | (with_reducible refine Fr.set ?_ _ _ (by first | (intros; omega) | (simp; done) | (simp; omega))) | (with_reducible refine Fr.via ?_ (by assumption)) | (with_reducible refine Fr.comp ?_ (by assumption))))) (fun _ _ q => q.elim)) (HV.out.fr (S := Nil) (by (repeat (first | (with_reducible exact Fr.refl _ _) | (with_reducible assumption) | (with_reducible exact Fr.of_nil (by assumption)) | (with_reducible refine Fr.drew ?_) | (with_reducible refine Fr.drewN ?_ _) | (with_reducible refine Fr.alloc ?_ _) | (with_reducible refine Fr.set ?_ _ _ (by first | (intros; omega) | (simp; done) | (simp; omega))) | (with_reducible refine Fr.via ?_ (by assumption)) | (with_reducible refine Fr.comp ?_ (by assumption))))) (fun _ _ q => q.elim)) hl).mono ?_
  rintro e w2 ⟨rfl, f2⟩
  obtain ⟨_, _, _⟩ := f2.at (w.heap.size) (by first | assumption | omega | (simp; done) | (simp; omega)); obtain ⟨_, _, _⟩ := f2.at (w.heap.size + 1) (by first | assumption | omega | (simp; done) | (simp; omega))
  go_wp2
  go_ret
  exact ⟨by simp, by (repeat (first | (with_reducible exact Fr.refl _ _) | (with_reducible assumption) | (with_reducible exact Fr.of_nil (by assumption)) | (with_reducible refine Fr.drew ?_) | (with_reducible refine Fr.drewN ?_ _) | (with_reducible refine Fr.alloc ?_ _) | (with_reducible refine Fr.set ?_ _ _ (by first | (intros; omega) | (simp; done) | (simp; omega))) | (with_reducible refine Fr.via ?_ (by assumption)) | (with_reducible refine Fr.comp ?_ (by assumption))))⟩
end Go.Proofs.Ytncncoakibilcaa
