/-
  Rows of names (layers 10, 12): is a name in one; where; are two the same. No conditions.
  Maps of string to int that a call makes: what each key tells. Names bound so often; names that are free (layer 12), in plain words. No conditions.
  Names that are free, as the program walks (layer 12), in plain words; the walker's state. No conditions.
-/
import Derived.Test.YthpenpgcacikaaaPar17
import Derived.Test.YthpenpgcacikaaaParW
import Derived.Maps.RangeWalk
import Derived.Maps.OwnOps
import Derived.Maps.OwnSet
import Derived.StringKeys
import Derived.RangeFuncNested
import Derived.RangeFuncBound
import Derived.RangeFuncCalls
import Derived.RangeFuncLeaves
import Derived.Shelf.Abstract
import Derived.OwnWalkIn
import Derived.TacticsInMore
import Derived.LoopNIn
import Derived.LoopIn
namespace Go.Proofs.Ythpenpgcacikaaa
set_option linter.unusedSimpArgs false
set_option linter.unusedVariables false
open Go.RowKit

theorem RowS.cell {X : Nat → Prop} {w : World} {a : Option Addr} {n cap : Nat} {l : List (List UInt8)} (h : RowS X w (.slice a n cap) l) (i : Nat) (hi : i < l.length) : ∃ b off, a = some ⟨b, off, none⟩ ∧ ¬ X b ∧ w.cell? ⟨b, off + i, none⟩ = some (.string ⟨(l[i]).toArray⟩) := by
  obtain ⟨a1, cap1, e, h1, h2, hc⟩ := h
  cases e
  obtain ⟨b, off, rfl, hb, hl, hcell⟩ := hc i hi
  refine ⟨b, off, rfl, hb, ?_⟩
  have := hcell 0 (.string ⟨(l[i]).toArray⟩) (by simp [List.getD, hi])
  simpa using this
theorem RowS.len {X : Nat → Prop} {w : World} {v : Value} {l : List (List UInt8)} (h : RowS X w v l) : l.length ≤ maxLen := by
  obtain ⟨a1, cap1, e, h1, h2, hc⟩ := h
  omega
theorem RowS.nocare {X : Nat → Prop} {w : World} {v : Value} {l : List (List UInt8)} (h : RowS X w v l) : RowS (fun _ => False) w v l := RowC.mono h (by decide) (fun _ _ q => q.elim)
/-- Where x stands in l; or it doesn't. -/
def IdxOf (x : List UInt8) (l : List (List UInt8)) (i : Int) : Prop := (∃ k : Nat, i = (k : Int) ∧ k < l.length ∧ x ∉ l.take k ∧ l[k]? = some x) ∨ (x ∉ l ∧ i = -1)
theorem mem_take_succ {x : List UInt8} {l : List (List UInt8)} {i : Nat} (hi : i < l.length) (h1 : x ∉ l.take i) (h2 : l[i] ≠ x) : x ∉ l.take (i + 1) := by
  rw [List.take_succ_eq_append_getElem hi]
  simp only [List.mem_append, List.mem_singleton, not_or]
  exact ⟨h1, fun q => h2 q.symm⟩
section
variable {X : Nat → Prop} {w : World} {v : Value} {l : List (List UInt8)}
set_option maxRecDepth 100000 in
theorem in_any (x : List UInt8) (h : RowS X w v l) :
    Calls Try.prog 11 #[v, .string ⟨x.toArray⟩] w fun r w' => r = .returned (.bool (decide (x ∈ l))) ∧ Fr Nil w w' := by
  obtain ⟨av, cv, rfl⟩ := RowC.shape h
  obtain ⟨N, hN⟩ : ∃ N, l.length = N := ⟨_, rfl⟩
  have hml := RowS.len h
  rw [hN] at hml
  have hmx : N ≤ 9223372036854775807 := hml
  have HV := Lib.hid (And.intro (RowS.nocare h) hN)
  rw [hN]
  clear h hN hml
  go_enter Try.func11, Try.ntmps11
  go_wp2_with fail
  go_loopg [5] N (fun g iv wr => ∃ k : Nat, g = N - k ∧ k ≤ N ∧ iv = .int .i64 (k : Int) ∧ Hid (x ∉ l.take k) ∧ Fr Nil w wr)
  case atStart => exact ⟨0, rfl, by omega, rfl, Lib.hid (by simp), Fr.refl _ _⟩
  case round =>
    obtain ⟨k, rfl, hk, rfl, HT, hw⟩ := hrel
    have i0 : (0 : Int) ≤ (k : Int) := by omega
    by_cases hlt : k < N
    · have wk : IntKind.i64.wrap ((k : Int) + 1) = (k : Int) + 1 := by rw [IntKind.wrap_i64]; omega
      have hkL : k < l.length := by rw [HV.out.2]; exact hlt
      obtain ⟨b, off, rfl, _, p0⟩ := (RowS.fr HV.out.1 hw (fun _ q => q.elim)).cell k hkL
      obtain ⟨tx, ex⟩ : ∃ x, l[k] = x := ⟨_, rfl⟩
      rw [ex] at p0
      have i1 : (k : Int) < (N : Int) := by omega
      have HE := Lib.hid ex
      clear ex
      by_cases q : tx = x
      · subst q
        have HQ := Lib.hid (show tx ∈ l from HE.out ▸ List.getElem_mem hkL)
        have HI := Lib.hid (show k < l.length ∧ tx ∉ l.take k ∧ l[k]? = some tx from ⟨hkL, HT.out, by rw [List.getElem?_eq_getElem hkL, HE.out]⟩)
        go_wp2
        go_ret
        exact ⟨by rw [decide_eq_true HQ.out]; rfl, by (repeat (first | (with_reducible exact Fr.refl _ _) | (with_reducible assumption) | (with_reducible exact Fr.of_nil (by assumption)) | (with_reducible refine Fr.drew ?_) | (with_reducible refine Fr.drewN ?_ _) | (with_reducible refine Fr.alloc ?_ _) | (with_reducible refine Fr.set ?_ _ _ (by first | (intros; omega) | (simp; done) | (simp; omega))) | (with_reducible refine Fr.via ?_ (by assumption)) | (with_reducible refine Fr.comp ?_ (by assumption))))⟩
      · have d1 : (tx == x) = false := by simpa using q
        have d2 : (x == tx) = false := by simpa using (fun z : x = tx => q z.symm)
        have HQ := Lib.hid (mem_take_succ hkL HT.out (by rw [HE.out]; exact q))
        clear q
        go_wp2
        go_roundg (N - (k + 1))
        case rel => exact ⟨k + 1, rfl, by omega, by simp, HQ, by (repeat (first | (with_reducible exact Fr.refl _ _) | (with_reducible assumption) | (with_reducible exact Fr.of_nil (by assumption)) | (with_reducible refine Fr.drew ?_) | (with_reducible refine Fr.drewN ?_ _) | (with_reducible refine Fr.alloc ?_ _) | (with_reducible refine Fr.set ?_ _ _ (by first | (intros; omega) | (simp; done) | (simp; omega))) | (with_reducible refine Fr.via ?_ (by assumption)) | (with_reducible refine Fr.comp ?_ (by assumption))))⟩
        case measure => omega
    · have i1 : ¬ (k : Int) < (N : Int) := by omega
      have HQ := Lib.hid (show x ∉ l from by have := HT.out; rw [List.take_of_length_le (by rw [HV.out.2]; omega)] at this; exact this)
      go_wp2
      go_ret
      exact ⟨by rw [decide_eq_false HQ.out]; rfl, by (repeat (first | (with_reducible exact Fr.refl _ _) | (with_reducible assumption) | (with_reducible exact Fr.of_nil (by assumption)) | (with_reducible refine Fr.drew ?_) | (with_reducible refine Fr.drewN ?_ _) | (with_reducible refine Fr.alloc ?_ _) | (with_reducible refine Fr.set ?_ _ _ (by first | (intros; omega) | (simp; done) | (simp; omega))) | (with_reducible refine Fr.via ?_ (by assumption)) | (with_reducible refine Fr.comp ?_ (by assumption))))⟩
set_option maxRecDepth 100000 in
theorem index_any (x : List UInt8) (h : RowS X w v l) :
    Calls Try.prog 33 #[v, .string ⟨x.toArray⟩] w fun r w' => (∃ i : Int, r = .returned (.int .i64 i) ∧ IdxOf x l i) ∧ Fr Nil w w' := by
  obtain ⟨av, cv, rfl⟩ := RowC.shape h
  obtain ⟨N, hN⟩ : ∃ N, l.length = N := ⟨_, rfl⟩
  have hml := RowS.len h
  rw [hN] at hml
  have hmx : N ≤ 9223372036854775807 := hml
  have HV := Lib.hid (And.intro (RowS.nocare h) hN)
  rw [hN]
  clear h hN hml
  go_enter Try.func33, Try.ntmps33
  go_wp2_with fail
  go_loopg [8] N (fun g iv wr => ∃ k : Nat, g = N - k ∧ k ≤ N ∧ iv = .int .i64 (k : Int) ∧ Hid (x ∉ l.take k) ∧ Fr Nil w wr)
  case atStart => exact ⟨0, rfl, by omega, rfl, Lib.hid (by simp), Fr.refl _ _⟩
  case round =>
    obtain ⟨k, rfl, hk, rfl, HT, hw⟩ := hrel
    have i0 : (0 : Int) ≤ (k : Int) := by omega
    by_cases hlt : k < N
    · have wk : IntKind.i64.wrap ((k : Int) + 1) = (k : Int) + 1 := by rw [IntKind.wrap_i64]; omega
      have hkL : k < l.length := by rw [HV.out.2]; exact hlt
      obtain ⟨b, off, rfl, _, p0⟩ := (RowS.fr HV.out.1 hw (fun _ q => q.elim)).cell k hkL
      obtain ⟨tx, ex⟩ : ∃ x, l[k] = x := ⟨_, rfl⟩
      rw [ex] at p0
      have i1 : (k : Int) < (N : Int) := by omega
      have HE := Lib.hid ex
      clear ex
      by_cases q : tx = x
      · subst q
        have HQ := Lib.hid (show tx ∈ l from HE.out ▸ List.getElem_mem hkL)
        have HI := Lib.hid (show k < l.length ∧ tx ∉ l.take k ∧ l[k]? = some tx from ⟨hkL, HT.out, by rw [List.getElem?_eq_getElem hkL, HE.out]⟩)
        go_wp2
        go_ret
        exact ⟨⟨_, rfl, .inl ⟨k, rfl, HI.out.1, HI.out.2.1, HI.out.2.2⟩⟩, by (repeat (first | (with_reducible exact Fr.refl _ _) | (with_reducible assumption) | (with_reducible exact Fr.of_nil (by assumption)) | (with_reducible refine Fr.drew ?_) | (with_reducible refine Fr.drewN ?_ _) | (with_reducible refine Fr.alloc ?_ _) | (with_reducible refine Fr.set ?_ _ _ (by first | (intros; omega) | (simp; done) | (simp; omega))) | (with_reducible refine Fr.via ?_ (by assumption)) | (with_reducible refine Fr.comp ?_ (by assumption))))⟩
      · have d1 : (tx == x) = false := by simpa using q
        have d2 : (x == tx) = false := by simpa using (fun z : x = tx => q z.symm)
        have HQ := Lib.hid (mem_take_succ hkL HT.out (by rw [HE.out]; exact q))
        clear q
        go_wp2
        go_roundg (N - (k + 1))
        case rel => exact ⟨k + 1, rfl, by omega, by simp, HQ, by (repeat (first | (with_reducible exact Fr.refl _ _) | (with_reducible assumption) | (with_reducible exact Fr.of_nil (by assumption)) | (with_reducible refine Fr.drew ?_) | (with_reducible refine Fr.drewN ?_ _) | (with_reducible refine Fr.alloc ?_ _) | (with_reducible refine Fr.set ?_ _ _ (by first | (intros; omega) | (simp; done) | (simp; omega))) | (with_reducible refine Fr.via ?_ (by assumption)) | (with_reducible refine Fr.comp ?_ (by assumption))))⟩
        case measure => omega
    · have i1 : ¬ (k : Int) < (N : Int) := by omega
      have HQ := Lib.hid (show x ∉ l from by have := HT.out; rw [List.take_of_length_le (by rw [HV.out.2]; omega)] at this; exact this)
      go_wp2
      go_ret
      exact ⟨⟨_, rfl, .inr ⟨HQ.out, rfl⟩⟩, by (repeat (first | (with_reducible exact Fr.refl _ _) | (with_reducible assumption) | (with_reducible exact Fr.of_nil (by assumption)) | (with_reducible refine Fr.drew ?_) | (with_reducible refine Fr.drewN ?_ _) | (with_reducible refine Fr.alloc ?_ _) | (with_reducible refine Fr.set ?_ _ _ (by first | (intros; omega) | (simp; done) | (simp; omega))) | (with_reducible refine Fr.via ?_ (by assumption)) | (with_reducible refine Fr.comp ?_ (by assumption))))⟩
set_option maxRecDepth 100000 in
theorem contains_any (x : List UInt8) (h : RowS X w v l) :
    Calls Try.prog 19 #[v, .string ⟨x.toArray⟩] w fun r w' => r = .returned (.bool (decide (x ∈ l))) ∧ Fr Nil w w' := by
  have HI := Lib.hid (index_any x h)
  have HB := Lib.hid (show (x ∈ l) ∨ ¬ (x ∈ l) from Classical.em _)
  obtain ⟨B, hB⟩ : ∃ B, decide (x ∈ l) = B := ⟨_, rfl⟩
  rw [hB]
  have HBB := Lib.hid hB
  clear hB h
  go_enter Try.func19, Try.ntmps19
  go_wp2_with fail
  refine HI.out.mono ?_
  rintro e w1 ⟨⟨i, rfl, hi⟩, f1⟩
  rcases hi with ⟨k, rfl, _, _, q⟩ | ⟨q, rfl⟩
  · have q := List.mem_of_getElem? q
    have hb := HBB.out
    rw [decide_eq_true q] at hb
    subst hb
    have i0 : (0 : Int) ≤ (k : Int) := by omega
    clear q
    go_wp2
    go_ret
    exact ⟨by simp, by (repeat (first | (with_reducible exact Fr.refl _ _) | (with_reducible assumption) | (with_reducible exact Fr.of_nil (by assumption)) | (with_reducible refine Fr.drew ?_) | (with_reducible refine Fr.drewN ?_ _) | (with_reducible refine Fr.alloc ?_ _) | (with_reducible refine Fr.set ?_ _ _ (by first | (intros; omega) | (simp; done) | (simp; omega))) | (with_reducible refine Fr.via ?_ (by assumption)) | (with_reducible refine Fr.comp ?_ (by assumption))))⟩
  · have hb := HBB.out
    rw [decide_eq_false q] at hb
    subst hb
    clear q
    go_wp2
    go_ret
    exact ⟨by simp, by (repeat (first | (with_reducible exact Fr.refl _ _) | (with_reducible assumption) | (with_reducible exact Fr.of_nil (by assumption)) | (with_reducible refine Fr.drew ?_) | (with_reducible refine Fr.drewN ?_ _) | (with_reducible refine Fr.alloc ?_ _) | (with_reducible refine Fr.set ?_ _ _ (by first | (intros; omega) | (simp; done) | (simp; omega))) | (with_reducible refine Fr.via ?_ (by assumption)) | (with_reducible refine Fr.comp ?_ (by assumption))))⟩
theorem take_same {a b : List (List UInt8)} {k : Nat} (ha : k < a.length) (hb : k < b.length) (h : a.take k = b.take k) (e : a[k] = b[k]) : a.take (k + 1) = b.take (k + 1) := by
  rw [List.take_succ_eq_append_getElem ha, List.take_succ_eq_append_getElem hb, h, e]
set_option maxRecDepth 100000 in
theorem texts_any {X2 : Nat → Prop} {v2 : Value} {l2 : List (List UInt8)} (h : RowS X w v l) (h2 : RowS X2 w v2 l2) :
    Calls Try.prog 12 #[v, v2] w fun r w' => r = .returned (.bool (decide (l = l2))) ∧ Fr Nil w w' := by
  obtain ⟨av, cv, rfl⟩ := RowC.shape h
  obtain ⟨av2, cv2, rfl⟩ := RowC.shape h2
  obtain ⟨N, hN⟩ : ∃ N, l.length = N := ⟨_, rfl⟩
  obtain ⟨M, hM⟩ : ∃ N, l2.length = N := ⟨_, rfl⟩
  have hml := RowS.len h
  rw [hN] at hml
  have hmx : N ≤ 9223372036854775807 := hml
  have HV := Lib.hid (And.intro (RowS.nocare h) (And.intro hN (And.intro (RowS.nocare h2) hM)))
  obtain ⟨B, hB⟩ : ∃ B, decide (l = l2) = B := ⟨_, rfl⟩
  rw [hB, hN, hM]
  have HB := Lib.hid hB
  clear h h2 hN hM hml hB
  by_cases hNM : N = M
  · subst hNM
    go_enter Try.func12, Try.ntmps12
    go_wp2_with fail
    go_loopg [5] N (fun g iv wr => ∃ k : Nat, g = N - k ∧ k ≤ N ∧ iv = .int .i64 (k : Int) ∧ Hid (l.take k = l2.take k) ∧ Fr Nil w wr)
    case atStart => exact ⟨0, rfl, by omega, rfl, Lib.hid (by simp), Fr.refl _ _⟩
    case round =>
      obtain ⟨k, rfl, hk, rfl, HT, hw⟩ := hrel
      have i0 : (0 : Int) ≤ (k : Int) := by omega
      by_cases hlt : k < N
      · have wk : IntKind.i64.wrap ((k : Int) + 1) = (k : Int) + 1 := by rw [IntKind.wrap_i64]; omega
        have hkL : k < l.length := by rw [HV.out.2.1]; exact hlt
        have hkM : k < l2.length := by rw [HV.out.2.2.2]; exact hlt
        obtain ⟨b, off, rfl, _, p0⟩ := (RowS.fr HV.out.1 hw (fun _ q => q.elim)).cell k hkL
        obtain ⟨b2, off2, rfl, _, p2⟩ := (RowS.fr HV.out.2.2.1 hw (fun _ q => q.elim)).cell k hkM
        obtain ⟨tx, ex⟩ : ∃ x, l[k] = x := ⟨_, rfl⟩
        obtain ⟨ty, ey⟩ : ∃ x, l2[k] = x := ⟨_, rfl⟩
        rw [ex] at p0
        rw [ey] at p2
        have i1 : (k : Int) < (N : Int) := by omega
        have HE := Lib.hid (And.intro ex ey)
        clear ex ey
        by_cases q : tx = ty
        · subst q
          have HQ := Lib.hid (take_same hkL hkM HT.out (by rw [HE.out.1, HE.out.2]))
          go_wp2_with fail
          go_quiet (fail)
          go_wp2
          go_roundg (N - (k + 1))
          case rel => exact ⟨k + 1, rfl, by omega, by simp, HQ, by (repeat (first | (with_reducible exact Fr.refl _ _) | (with_reducible assumption) | (with_reducible exact Fr.of_nil (by assumption)) | (with_reducible refine Fr.drew ?_) | (with_reducible refine Fr.drewN ?_ _) | (with_reducible refine Fr.alloc ?_ _) | (with_reducible refine Fr.set ?_ _ _ (by first | (intros; omega) | (simp; done) | (simp; omega))) | (with_reducible refine Fr.via ?_ (by assumption)) | (with_reducible refine Fr.comp ?_ (by assumption))))⟩
          case measure => omega
        · have d1 : (tx == ty) = false := by simpa using q
          have HQ := Lib.hid (show ¬ l = l2 from fun z => by
            subst z
            exact q (HE.out.1.symm.trans HE.out.2))
          clear q
          go_wp2_with fail
          go_quiet (fail)
          go_wp2
          go_ret
          exact ⟨by rw [← HB.out, decide_eq_false HQ.out]; rfl, by (repeat (first | (with_reducible exact Fr.refl _ _) | (with_reducible assumption) | (with_reducible exact Fr.of_nil (by assumption)) | (with_reducible refine Fr.drew ?_) | (with_reducible refine Fr.drewN ?_ _) | (with_reducible refine Fr.alloc ?_ _) | (with_reducible refine Fr.set ?_ _ _ (by first | (intros; omega) | (simp; done) | (simp; omega))) | (with_reducible refine Fr.via ?_ (by assumption)) | (with_reducible refine Fr.comp ?_ (by assumption))))⟩
      · have i1 : ¬ (k : Int) < (N : Int) := by omega
        have HQ := Lib.hid (show l = l2 from by
          have := HT.out
          rw [List.take_of_length_le (by rw [HV.out.2.1]; omega), List.take_of_length_le (by rw [HV.out.2.2.2]; omega)] at this
          exact this)
        go_wp2
        go_ret
        exact ⟨by rw [← HB.out, decide_eq_true HQ.out]; rfl, by (repeat (first | (with_reducible exact Fr.refl _ _) | (with_reducible assumption) | (with_reducible exact Fr.of_nil (by assumption)) | (with_reducible refine Fr.drew ?_) | (with_reducible refine Fr.drewN ?_ _) | (with_reducible refine Fr.alloc ?_ _) | (with_reducible refine Fr.set ?_ _ _ (by first | (intros; omega) | (simp; done) | (simp; omega))) | (with_reducible refine Fr.via ?_ (by assumption)) | (with_reducible refine Fr.comp ?_ (by assumption))))⟩
  · have d0 : ¬ (N : Int) = (M : Int) := by omega
    have d1 : ((N : Int) == (M : Int)) = false := by simpa using d0
    have HQ := Lib.hid (show ¬ l = l2 from fun z => by
      have h1 := HV.out.2.1
      rw [z, HV.out.2.2.2] at h1
      exact hNM h1.symm)
    go_enter Try.func12, Try.ntmps12
    go_wp2
    go_ret
    exact ⟨by rw [← HB.out, decide_eq_false HQ.out]; rfl, by (repeat (first | (with_reducible exact Fr.refl _ _) | (with_reducible assumption) | (with_reducible exact Fr.of_nil (by assumption)) | (with_reducible refine Fr.drew ?_) | (with_reducible refine Fr.drewN ?_ _) | (with_reducible refine Fr.alloc ?_ _) | (with_reducible refine Fr.set ?_ _ _ (by first | (intros; omega) | (simp; done) | (simp; omega))) | (with_reducible refine Fr.via ?_ (by assumption)) | (with_reducible refine Fr.comp ?_ (by assumption))))⟩
end
end Go.Proofs.Ythpenpgcacikaaa

namespace Go.Proofs.Ythpenpgcacikaaa
set_option linter.unusedSimpArgs false
set_option linter.unusedVariables false
open Go.RowKit Go.Maps

theorem strK : Keyed Try.prog 9 := string_keyed Try.underlying9
theorem zeroI (w : World) : (zeroValue 3).run Try.prog w = .ok (.int .i64 0) w := by kernel_rfl
/-- Block b is a map of at most n keys; a key tells f of it, nought where it isn't there. -/
def SMap (w : World) (b n : Nat) (f : List UInt8 → Int) : Prop :=
  ∃ D : DataW Unit, w.ownsMap Try.prog 9 (plainElem Try.prog 3) b n D ∧ (∀ x, x.length ≤ maxLen → D.atKey (.string x) (.lit (.int .i64 0)) = .lit (.int .i64 (f x)))
theorem keyS {x : List UInt8} (h : x.length ≤ maxLen) : keyOf Try.prog 9 (.string ⟨x.toArray⟩) = some (.string x) := by
  have := Go.WideMaps.keyOf_string_mk (P := Try.prog) (k := 9) Try.underlying9 (s := ⟨x.toArray⟩) (by simpa [ByteArray.size] using h)
  simpa using this
theorem SMap.made (w : World) : SMap (w.alloc (.map #[] 0)) w.heap.size 0 (fun _ => 0) := ⟨_, World.ownsMap_made w _ _ _, fun c _ => rfl⟩
theorem SMap.lt {w : World} {b n : Nat} {f : List UInt8 → Int} (h : SMap w b n f) : b < w.heap.size := by
  obtain ⟨D, h, _⟩ := h
  exact h.lt
theorem SMap.mono {w : World} {b n m : Nat} {f : List UInt8 → Int} (h : SMap w b n f) (hn : n ≤ m) : SMap w b m f := by
  obtain ⟨D, h, r⟩ := h
  exact ⟨D, h.mono hn, r⟩
theorem SMap.fr {S : Nat → Prop} {w w' : World} {b n : Nat} {f : List UInt8 → Int} (h : SMap w b n f) (g : Fr S w w') (hs : ¬ S b) : SMap w' b n f := by
  obtain ⟨D, h, r⟩ := h
  have hl := h.lt
  obtain ⟨es, cl, hb, q⟩ := h
  exact ⟨D, ⟨es, cl, (g.block b hl hs).trans hb, q⟩, r⟩
theorem SMap.congr {w : World} {b n : Nat} {f g : List UInt8 → Int} (h : SMap w b n f) (e : ∀ x, x.length ≤ maxLen → f x = g x) : SMap w b n g := by
  obtain ⟨D, h, r⟩ := h
  exact ⟨D, h, fun x hx => by rw [r x hx, e x hx]⟩
set_option maxRecDepth 100000 in
/-- A look-up, as an equation on its run. -/
theorem SMap.run {w : World} {b n : Nat} {f : List UInt8 → Int} (h : SMap w b n f) {x : List UInt8} (hx : x.length ≤ maxLen) :
    (Instr.lookup 71 (.map (some b)) (.string ⟨x.toArray⟩) false).run Try.prog w = .ok (.int .i64 (f x)) w := by
  obtain ⟨D, h, h1⟩ := h
  obtain ⟨v, hrun, hv, _⟩ := h.lookup_int strK Try.underlying71 Try.underlying3 (zeroI _) (keyS hx)
  have e := (h1 x hx).symm.trans hv
  injection e with e
  injection e with _ e
  exact hrun.trans (by rw [e])
section
variable {P : Program} (w : World) {ops : Array Oper} {rest : List Oper} {o : Oper} {a : Act} {Q : Exit → Act → World → Prop}
/-- m[x]. -/
theorem wp_lookS (hg : o.guard = none) (m k : Operand) (hop : o.op = Op.lookup 71 m k false) (b n : Nat) (f : List UInt8 → Int) (hm : a.eval m = .map (some b)) (h : SMap w b n f)
    (x : List UInt8) (hx : a.eval k = .string ⟨x.toArray⟩) (hl : x.length ≤ maxLen) (hK : wpList Try.prog ops Q rest (a.put o.dst (.int .i64 (f x))) w) : wpList Try.prog ops Q (o :: rest) a w := by
  obtain ⟨D, h, h1⟩ := h
  refine wpList_lookup_own_int w hg m k _ hop 9 3 .i64 strK Try.underlying71 Try.underlying3 (zeroI _) b n D hm h _ _ hx (keyS hl) ?_
  intro v hv _
  have e := (h1 x hl).symm.trans hv
  injection e with e
  injection e with _ e
  rw [← e]
  exact hK
theorem turned_fr {w w' : World} {b : Nat} (g2 : w.mapTurned w' b) : Fr (fun x => x = b) w w' ∧ w'.heap.size = w.heap.size := by
  refine ⟨Fr.grown (Fr.refl _ _) g2.grown (fun k q _ => by cases q; rfl), ?_⟩
  obtain ⟨es, cl, es', cl', _, rfl⟩ := g2
  simp [Go.ChangeMaps.setBlock]
/-- m[x] = d. -/
theorem wp_putS (hg : o.guard = none) (m k v : Operand) (hop : o.op = Op.mapUpdate 71 m k v) (b n : Nat) (f : List UInt8 → Int) (hm : a.eval m = .map (some b)) (h : SMap w b n f) (hn : n < 1000000)
    (x : List UInt8) (d : Int) (hx : a.eval k = .string ⟨x.toArray⟩) (hv : a.eval v = .int .i64 d) (hl : x.length ≤ maxLen) (hd : (Lit.int .i64 d).wf = true)
    (hK : ∀ w', SMap w' b (n + 1) (fun y => if y = x then d else f y) → Fr (fun x => x = b) w w' → w'.heap.size = w.heap.size → wpList Try.prog ops Q rest (a.put o.dst undef) w') : wpList Try.prog ops Q (o :: rest) a w := by
  obtain ⟨D, h, h1⟩ := h
  have hti := h.tidy strK
  refine wpList_mapUpdate_in w hg m k v _ hop 9 3 strK Try.underlying71 _ b n D hm h (by unfold maxLen; omega) _ _ _ hx hv (keyS hl) _ [] (plainElem_int Try.underlying3 hd) ?_
  intro w' g1 g2
  obtain ⟨q1, q2⟩ := turned_fr g2
  refine hK w' ⟨_, g1, ?_⟩ q1 q2
  intro y hy
  by_cases e : y = x
  · subst e
    simp only [if_true]
    exact atKey_put_same hti.isMap (k := .string y) trivial _ _
  · simp only [if_neg e]
    rw [atKey_put_other (by simpa using e)]
    exact h1 y hy
/-- delete(m, x). -/
theorem wp_delS (hg : o.guard = none) (m k : Operand) (hop : o.op = Op.call { callee := Callee.builtin Builtin.delete, args := #[m, k], argTypes := #[71, 9] }) (b n : Nat) (f : List UInt8 → Int) (hm : a.eval m = .map (some b)) (h : SMap w b n f)
    (x : List UInt8) (hx : a.eval k = .string ⟨x.toArray⟩) (hl : x.length ≤ maxLen)
    (hK : ∀ w', SMap w' b n (fun y => if y = x then 0 else f y) → Fr (fun x => x = b) w w' → w'.heap.size = w.heap.size → wpList Try.prog ops Q rest (a.put o.dst (.tuple #[])) w') : wpList Try.prog ops Q (o :: rest) a w := by
  obtain ⟨D, h, h1⟩ := h
  refine wpList_delete_own w hg m k _ _ hop 3 strK Try.underlying71 _ b n D hm h _ _ hx (keyS hl) ?_
  intro w' g1 g2
  obtain ⟨q1, q2⟩ := turned_fr g2
  refine hK w' ⟨_, g1, ?_⟩ q1 q2
  intro y hy
  by_cases e : y = x
  · subst e
    simp only [if_true]
    exact atKey_del_same _
  · simp only [if_neg e]
    rw [atKey_del_other (by simpa using e)]
    exact h1 y hy
end
end Go.Proofs.Ythpenpgcacikaaa

namespace Go.Proofs.Ythpenpgcacikaaa
set_option linter.unusedSimpArgs false
set_option linter.unusedVariables false
open Go.RowKit

def nmB (l : List TB) : List (List UInt8) := l.map TB.name
mutual
/-- Names that are free where those of b are bound, as they come. -/
def occE : TE → List (List UInt8) → List (List UInt8)
  | .mk k n _ _ ps ks bs al, b => if k = 1 then (if n ∈ b then [] else [n]) else if k = 6 then occB bs (nmB bs ++ b) ++ occK ks (nmB bs ++ b) else if k = 8 then occK ks (ps ++ b) else occK ks b ++ occA al b
def occK : List TE → List (List UInt8) → List (List UInt8)
  | [], _ => []
  | e :: l, b => occE e b ++ occK l b
def occB : List TB → List (List UInt8) → List (List UInt8)
  | [], _ => []
  | .mk _ ps e :: l, b => occE e (ps ++ b) ++ occB l b
def occA : List TA → List (List UInt8) → List (List UInt8)
  | [], _ => []
  | .mk k n _ _ ns e :: l, b => occE e ((if k = 2 then [n] else ns) ++ b) ++ occA l b
end
mutual
def szE : TE → Nat
  | .mk _ _ _ _ _ ks bs al => 1 + szK ks + szB bs + szA al
def szK : List TE → Nat
  | [] => 0
  | e :: l => szE e + szK l
def szB : List TB → Nat
  | [] => 0
  | .mk _ _ e :: l => szE e + szB l
def szA : List TA → Nat
  | [] => 0
  | .mk _ _ _ _ _ e :: l => szE e + szA l
end
mutual
/-- All names are short enough for memory. -/
def okE : TE → Prop
  | .mk _ n _ _ ps ks bs al => n.length ≤ maxLen ∧ (∀ x ∈ ps, x.length ≤ maxLen) ∧ okK ks ∧ okB bs ∧ okA al
def okK : List TE → Prop
  | [] => True
  | e :: l => okE e ∧ okK l
def okB : List TB → Prop
  | [] => True
  | .mk n ps e :: l => (n.length ≤ maxLen ∧ (∀ x ∈ ps, x.length ≤ maxLen) ∧ okE e) ∧ okB l
def okA : List TA → Prop
  | [] => True
  | .mk _ n _ _ ps e :: l => (n.length ≤ maxLen ∧ (∀ x ∈ ps, x.length ≤ maxLen) ∧ okE e) ∧ okA l
end
mutual
theorem occE_le : ∀ (e : TE) (b : List (List UInt8)), (occE e b).length ≤ wtE e
  | .mk k n _ _ ps ks bs al, b => by
    unfold occE wtE
    by_cases h1 : k = 1
    · rw [if_pos h1, if_pos h1]
      split <;> simp <;> omega
    · rw [if_neg h1, if_neg h1]
      by_cases h6 : k = 6
      · rw [if_pos h6, List.length_append]
        have := occB_le bs (nmB bs ++ b)
        have := occK_le ks (nmB bs ++ b)
        omega
      · rw [if_neg h6]
        by_cases h8 : k = 8
        · rw [if_pos h8]
          have := occK_le ks (ps ++ b)
          omega
        · rw [if_neg h8, List.length_append]
          have := occK_le ks b
          have := occA_le al b
          omega
theorem occK_le : ∀ (l : List TE) (b : List (List UInt8)), (occK l b).length ≤ wtK l
  | [], _ => Nat.le_refl _
  | e :: l, b => by
    unfold occK wtK
    rw [List.length_append]
    have := occE_le e b
    have := occK_le l b
    omega
theorem occB_le : ∀ (l : List TB) (b : List (List UInt8)), (occB l b).length ≤ wtB l
  | [], _ => Nat.le_refl _
  | .mk _ ps e :: l, b => by
    unfold occB wtB
    rw [List.length_append]
    have := occE_le e (ps ++ b)
    have := occB_le l b
    omega
theorem occA_le : ∀ (l : List TA) (b : List (List UInt8)), (occA l b).length ≤ wtA l
  | [], _ => Nat.le_refl _
  | .mk k n _ _ ns e :: l, b => by
    unfold occA wtA
    rw [List.length_append]
    have := occE_le e ((if k = 2 then [n] else ns) ++ b)
    have := occA_le l b
    omega
end
theorem nmB_le (bs : List TB) : (nmB bs).length ≤ wtB bs := by
  induction bs with
  | nil => exact Nat.le_refl _
  | cons x l ih =>
    obtain ⟨n, p, e⟩ := x
    have e1 : wtB (.mk n p e :: l) = (1 + p.length + wtE e) + wtB l := rfl
    have e2 : (nmB (.mk n p e :: l)).length = (nmB l).length + 1 := by simp [nmB]
    omega
section
variable (l wk mb N : Nat) (J : List (List UInt8) → World → Prop) (O : World → Nat → Prop)
/-- What a round of the loop over names keeps, and is told. -/
structure YL : Prop where
  lt : ∀ pre A k, J pre A → O A k → k < A.heap.size
  fr : ∀ pre A B, J pre A → Fr (fun k => k = mb) A B → J pre B ∧ ∀ k, O B k → O A k
  yl : ∀ pre x A, J pre A → pre.length < N → YieldAt Fence.wide 5 Try.prog l #[.string ⟨x.toArray⟩] A fun e W' => e = .returned (.bool true) ∧ J (pre ++ [x]) W' ∧ Fr (O A) A W' ∧ ∀ k, O W' k → O A k ∨ A.heap.size ≤ k
/-- The blocks that may turn. -/
def XO (W : World) : Nat → Prop := fun k => O W k ∨ k = mb
/-- From world to world: what else lies there stays; what is new may turn. -/
structure Stp (A B : World) : Prop where
  fr : Fr (XO mb O A) A B
  new : ∀ k, O B k → O A k ∨ A.heap.size ≤ k
/-- The walker's state: names told; names bound. -/
structure WK (W : World) (pre bl : List (List UInt8)) (n : Nat) : Prop where
  j : J pre W
  m : SMap W mb n (fun x => (bl.count x : Int))
  rc : Blk W wk #[.map (some mb), .func (.yield l) #[] #[]] 73
  wk1 : ¬ O W wk
  wk2 : wk ≠ mb
  mb1 : ¬ O W mb
end
section
variable {l wk mb N : Nat} {J : List (List UInt8) → World → Prop} {O : World → Nat → Prop} {A B C W : World} {pre bl : List (List UInt8)} {n : Nat}
theorem Stp.trans (h : Stp mb O A B) (g : Stp mb O B C) : Stp mb O A C :=
  ⟨h.fr.trans g.fr (fun k hk q => by
    rcases q with q | q
    · rcases h.new k q with z | z
      · exact .inl z
      · omega
    · exact .inr q), fun k q => by
    rcases g.new k q with z | z
    · exact h.new k z
    · exact .inr (Nat.le_trans h.fr.size z)⟩
theorem Stp.refl (A : World) : Stp mb O A A := ⟨Fr.refl _ _, fun k q => .inl q⟩
theorem Stp.blk {b : Nat} {c : Array Value} {t : TypeId} (h : Stp mb O A B) (hb : Blk A b c t) (h1 : ¬ O A b) (h2 : b ≠ mb) : Blk B b c t ∧ ¬ O B b :=
  ⟨h.fr.blk hb (fun q => q.elim h1 h2), fun q => by
    have := hb.lt
    rcases h.new b q with z | z
    · exact h1 z
    · omega⟩
theorem Stp.row {v : Value} {m size : Nat} {cs : Nat → List Value} (h : Stp mb O A B) (hr : RowC (XO mb O A) A v m size cs) (hz : 0 < size) : RowC (XO mb O B) B v m size cs :=
  ((hr.mono (Y := fun k => XO mb O A k ∨ A.heap.size ≤ k) hz (fun b hb q => q.elim id (fun z => by omega))).fr h.fr (fun b q => .inl q)).mono hz (fun b _ q => q.elim (fun z => (h.new b z).elim (fun y => .inl (.inl y)) .inr) (fun z => .inl (.inr z)))
theorem Stp.el {α : Type} {R : (Nat → Prop) → World → List Value → α → Prop} {size : Nat} (law : ElemLaw R size) {c : List Value} {a : α} (h : Stp mb O A B) (hr : R (XO mb O A) A c a) : R (XO mb O B) B c a :=
  law.mono (law.fr (law.mono (Y := fun k => XO mb O A k ∨ A.heap.size ≤ k) hr (fun b hb q => q.elim id (fun z => by omega))) h.fr (fun b q => .inl q)) (fun b _ q => q.elim (fun z => (h.new b z).elim (fun y => .inl (.inl y)) .inr) (fun z => .inl (.inr z)))
theorem WK.map (hY : YL l mb N J O) (h : WK l wk mb J O A pre bl n) (f : Fr (fun k => k = mb) A B) {bl' : List (List UInt8)} {n' : Nat} (hm : SMap B mb n' (fun x => (bl'.count x : Int))) : WK l wk mb J O B pre bl' n' ∧ Stp mb O A B :=
  have g := hY.fr pre A B h.j f
  ⟨⟨g.1, hm, f.blk h.rc h.wk2, fun q => h.wk1 (g.2 _ q), h.wk2, fun q => h.mb1 (g.2 _ q)⟩, ⟨f.mono (fun k _ q => .inr q), fun k q => .inl (g.2 k q)⟩⟩
theorem WK.keep (hY : YL l mb N J O) (h : WK l wk mb J O A pre bl n) (f : Fr Nil A B) : WK l wk mb J O B pre bl n ∧ Stp mb O A B :=
  h.map hY (f.mono (fun _ _ q => q.elim)) (h.m.fr f (fun q => q))
theorem WK.more (h : WK l wk mb J O A pre bl n) {n' : Nat} (hn : n ≤ n') : WK l wk mb J O A pre bl n' := ⟨h.j, h.m.mono hn, h.rc, h.wk1, h.wk2, h.mb1⟩
theorem WK.facts (h : WK l wk mb J O A pre bl n) : A.cell? ⟨wk, 0, none⟩ = some (.map (some mb)) ∧ A.cell? ⟨wk, 1, none⟩ = some (.func (.yield l) #[] #[]) ∧ (∀ o, A.frozen? ⟨wk, o, none⟩ = false) ∧ wk < A.heap.size := by
  have c0 := h.rc.cell 0
  have c1 := h.rc.cell 1
  simp at c0 c1
  exact ⟨c0, c1, h.rc.free, h.rc.lt⟩
theorem WK.same (h : WK l wk mb J O A pre bl n) {bl' : List (List UInt8)} (e : ∀ x, bl.count x = bl'.count x) : WK l wk mb J O A pre bl' n := ⟨h.j, h.m.congr (fun x _ => by rw [e x]), h.rc, h.wk1, h.wk2, h.mb1⟩
end
end Go.Proofs.Ythpenpgcacikaaa
