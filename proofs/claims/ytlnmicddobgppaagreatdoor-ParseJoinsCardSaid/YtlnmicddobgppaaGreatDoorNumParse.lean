/-
  Contracts of package num: digits. No conditions.
-/
import Derived.Test.YtlnmicddobgppaaGreatDoorRef01r
import Derived.Test.YtlnmicddobgppaaGreatDoorParse16
import Derived.Test.YtlnmicddobgppaaGreatDoorShelf2
import Derived.Test.YtlnmicddobgppaaGreatDoorBase01
namespace Go.Proofs.YtlnmicddobgppaaGreatDoor
set_option linter.unusedSimpArgs false
set_option linter.unusedVariables false
open Go.RowKit

def hexS : ByteArray := ⟨#[48, 49, 50, 51, 52, 53, 54, 55, 56, 57, 97, 98, 99, 100, 101, 102]⟩
def decS : ByteArray := ⟨#[48, 49, 50, 51, 52, 53, 54, 55, 56, 57]⟩
theorem hex_mem (c : UInt8) : hexS.data.toList.contains c = decide (dgt c ≤ 15) := by
  have key : ∀ n, n < 256 → hexS.data.toList.contains (UInt8.ofNat n) = decide (dgt (UInt8.ofNat n) ≤ 15) := by decide +kernel
  have h := key c.toNat (UInt8.toNat_lt c)
  rwa [UInt8.ofNat_toNat] at h
theorem dec_mem (c : UInt8) : decS.data.toList.contains c = decide (dgt c ≤ 9) := by
  have key : ∀ n, n < 256 → decS.data.toList.contains (UInt8.ofNat n) = decide (dgt (UInt8.ofNat n) ≤ 9) := by decide +kernel
  have h := key c.toNat (UInt8.toNat_lt c)
  rwa [UInt8.ofNat_toNat] at h
theorem dropWhile_nil {p : UInt8 → Bool} : ∀ l : List UInt8, (∀ c ∈ l.dropWhile p, p c = true) → l.dropWhile p = []
  | [], _ => rfl
  | a :: l, h => by
    by_cases ha : p a = true
    · rw [List.dropWhile_cons_of_pos ha] at h ⊢
      exact dropWhile_nil l h
    · rw [List.dropWhile_cons_of_neg ha] at h
      exact absurd (h a (by simp)) ha
theorem dropWhile_all {p : UInt8 → Bool} : ∀ l : List UInt8, l.dropWhile p = [] ↔ ∀ c ∈ l, p c = true
  | [] => by simp
  | a :: l => by
    by_cases ha : p a = true
    · rw [List.dropWhile_cons_of_pos ha, dropWhile_all l]
      simp [ha]
    · rw [List.dropWhile_cons_of_neg ha]
      simp [ha]
theorem trim_nil (l cs : List UInt8) : (Lib.trimS l cs).isEmpty = l.all (cs.contains ·) := by
  rw [Bool.eq_iff_iff, List.isEmpty_iff, List.all_eq_true]
  unfold Lib.trimS Lib.trimLeftS Lib.trimRightS
  rw [dropWhile_all]
  constructor
  · intro h
    have h2 := dropWhile_nil l.reverse (p := (cs.contains ·)) (fun c hc => h c (by simpa using hc))
    rw [dropWhile_all] at h2
    exact fun c hc => h2 c (by simpa using hc)
  · intro h c hc
    have h2 : l.reverse.dropWhile (cs.contains ·) = [] := (dropWhile_all _).2 (fun c hc => h c (by simpa using hc))
    rw [h2] at hc
    simp at hc
theorem size_zero_iff (s : ByteArray) : s.toList.isEmpty = decide (s.size = 0) := by
  have q : s.data.toList.length = s.size := by simp
  rw [Lib.toList_data, ← q]
  cases s.data.toList <;> simp
section
variable (s cs : ByteArray) (w : World) (hs : s.size ≤ 9223372036854775807) (hcs : cs.size < 4294967281) (ha : ∀ (j : Nat) b, cs.data.toList[j]? = some b → b.toNat < 128)
include hs hcs ha
theorem trim_any : Calls Tryz.prog 129 #[.string s, .string cs] w fun e w' => e = .returned (.string ⟨(Lib.trimS s.data.toList cs.data.toList).toArray⟩) ∧ Fr Nil w w' :=
  (Any.strings_Trim_laid Tryz.lays160B (by kernel_rfl) s cs w hs hcs ha).mono fun e w' ⟨h1, h2⟩ => ⟨h1, Fr.ofBelow h2⟩
theorem digits_any : Calls Tryz.prog 111 #[.string s, .string cs] w fun e w' => e = .returned (.bool (!decide (s.size = 0) && s.data.toList.all (cs.data.toList.contains ·))) ∧ Fr Nil w w' := by
  have e0 := size_zero_iff s
  have ht := trim_nil s.data.toList cs.data.toList
  obtain ⟨b, hb⟩ : ∃ b, s.data.toList.all (cs.data.toList.contains ·) = b := ⟨_, rfl⟩
  rw [hb] at ht
  rw [hb]
  clear hb
  obtain ⟨L, hL⟩ : ∃ L, Lib.trimS s.data.toList cs.data.toList = L := ⟨_, rfl⟩
  rw [hL] at ht
  have HL := Lib.hid hL
  clear hL
  have HA := Lib.hid ha
  clear ha
  by_cases hz : s.size = 0
  · have e1 : s.toList.isEmpty = true := by rw [e0]; simpa using hz
    have e2 : s.toList = [] := List.isEmpty_iff.1 e1
    have hd : (!decide (s.size = 0) && b) = false := by simp [hz]
    rw [hd]
    clear hd e0 hz
    go_enter Tryz.func111, Tryz.ntmps111
    go_wp2
    go_ret
    exact ⟨rfl, by (repeat (first | (with_reducible exact Fr.refl _ _) | (with_reducible assumption) | (with_reducible exact Fr.of_nil (by assumption)) | (with_reducible refine Fr.drew ?_) | (with_reducible refine Fr.drewN ?_ _) | (with_reducible refine Fr.alloc ?_ _) | (with_reducible refine Fr.set ?_ _ _ (by first | (intros; omega) | (simp; done) | (simp; omega))) | (with_reducible refine Fr.via ?_ (by assumption)) | (with_reducible refine Fr.comp ?_ (by assumption))))⟩
  · have e1 : s.toList.isEmpty = false := by rw [e0]; simpa using hz
    have hd : (!decide (s.size = 0) && b) = b := by simp [hz]
    rw [hd]
    clear hd e0 hz
    have hLe : (⟨L.toArray⟩ : ByteArray).toList.isEmpty = b := by rw [Lib.toList_data]; exact ht
    go_enter Tryz.func111, Tryz.ntmps111
    go_wp2_with fail
    refine (trim_any s cs _ hs hcs HA.out).mono ?_
    rw [HL.out]
    rintro e w1 ⟨rfl, f1⟩
    go_wp2
    go_ret
    exact ⟨by first | rfl | simp [ht], by (repeat (first | (with_reducible exact Fr.refl _ _) | (with_reducible assumption) | (with_reducible exact Fr.of_nil (by assumption)) | (with_reducible refine Fr.drew ?_) | (with_reducible refine Fr.drewN ?_ _) | (with_reducible refine Fr.alloc ?_ _) | (with_reducible refine Fr.set ?_ _ _ (by first | (intros; omega) | (simp; done) | (simp; omega))) | (with_reducible refine Fr.via ?_ (by assumption)) | (with_reducible refine Fr.comp ?_ (by assumption))))⟩
end
end Go.Proofs.YtlnmicddobgppaaGreatDoor
