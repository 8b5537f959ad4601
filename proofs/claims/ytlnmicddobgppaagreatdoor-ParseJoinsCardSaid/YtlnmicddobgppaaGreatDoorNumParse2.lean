/-
  Contracts of package num: Parse. No conditions but that the library's error has a value.
-/
import Derived.Test.YtlnmicddobgppaaGreatDoorNumParse
namespace Go.Proofs.YtlnmicddobgppaaGreatDoor
set_option linter.unusedSimpArgs false
set_option linter.unusedVariables false
open Go.RowKit

def foldN (a : Nat) (l : List UInt8) : Nat := l.foldl (fun a c => a * 10 + dgt c) a
theorem foldN_ge : ∀ (l : List UInt8) (a : Nat), a ≤ foldN a l
  | [], a => Nat.le_refl _
  | c :: l, a => Nat.le_trans (by omega) (foldN_ge l (a * 10 + dgt c))
theorem dgt_dec {c : UInt8} (h : dgt c ≤ 9) : 48 ≤ c.toNat ∧ c.toNat ≤ 57 ∧ dgt c = c.toNat - 48 := by
  unfold dgt at *
  by_cases h1 : 48 ≤ c.toNat ∧ c.toNat ≤ 57
  · rw [if_pos h1]; exact ⟨h1.1, h1.2, rfl⟩
  · rw [if_neg h1] at h
    split at h <;> omega
theorem parseM_val : ∀ (l : List UInt8) (acc : Nat), acc ≤ 18446744073709551615 → (∀ c ∈ l, dgt c ≤ 9) → Lib.parseUintM (2 ^ 64 - 1) acc l = if foldN acc l ≤ 18446744073709551615 then .ok (foldN acc l) else .range
  | [], acc, h, _ => by
    show Lib.NumEnd.ok acc = _
    rw [if_pos (show foldN acc [] ≤ _ from h)]
    rfl
  | c :: l, acc, h, hd => by
    obtain ⟨h1, h2, h3⟩ := dgt_dec (hd c (by simp))
    have hge := foldN_ge l (acc * 10 + dgt c)
    have hf : foldN acc (c :: l) = foldN (acc * 10 + dgt c) l := rfl
    unfold Lib.parseUintM
    rw [if_pos ⟨h1, h2⟩, ← h3]
    by_cases g1 : 1844674407370955162 ≤ acc
    · rw [if_pos g1, if_neg (by rw [hf]; omega)]
    · rw [if_neg g1]
      by_cases g2 : 2 ^ 64 - 1 < acc * 10 + dgt c
      · rw [if_pos g2, if_neg (by rw [hf]; omega)]
      · rw [if_neg g2, hf]
        exact parseM_val l _ (by omega) (fun x hx => hd x (by simp [hx]))
theorem decB_mem {d : List UInt8} (h : decB d = true) : ∀ c ∈ d, dgt c ≤ 9 := fun c hc => by simpa using List.all_eq_true.1 h c hc
theorem parseU_val (d : List UInt8) (hd : decB d = true) (hne : d ≠ []) : Lib.parseUintB 64 d = if numB 10 d ≤ 18446744073709551615 then .ok (numB 10 d) else .range := by
  unfold Lib.parseUintB
  rw [if_neg hne]
  exact parseM_val d 0 (by omega) (decB_mem hd)
theorem parseI_val (s d : List UInt8) (m : Bool) (hm : m = true → s = 45 :: d) (hm' : m = false → s = d) (hd : decB d = true) (hne : d ≠ []) :
    Lib.parseIntB 64 s = if 9223372036854775808 < numB 10 d then .range else if m then .ok (-(numB 10 d : Int)) else if numB 10 d = 9223372036854775808 then .range else .ok (numB 10 d : Int) := by
  have hu := parseU_val d hd hne
  have e63 : (2 : Nat) ^ (64 - 1) = 9223372036854775808 := by decide
  cases m
  · have hs := hm' rfl
    subst hs
    cases hl : s with
    | nil => exact absurd hl hne
    | cons c r =>
      rw [hl] at hu hd
      obtain ⟨h1, h2, h3⟩ := dgt_dec (decB_mem hd c (by simp))
      unfold Lib.parseIntB
      simp only
      rw [if_neg (by omega), hu]
      generalize numB 10 (c :: r) = N
      rw [e63]
      have hn : ¬ c.toNat = 45 := by omega
      by_cases g1 : N ≤ 18446744073709551615
      · rw [if_pos g1]
        simp only [hn, not_false_eq_true, true_and, false_and, if_false, Bool.false_eq_true]
        by_cases g2 : 9223372036854775808 ≤ N
        · rw [if_pos g2]
          by_cases g3 : 9223372036854775808 < N
          · rw [if_pos g3]
          · rw [if_neg g3, if_pos (by omega)]
        · rw [if_neg g2, if_neg (by omega), if_neg (by omega)]
      · rw [if_neg g1, if_pos (by omega)]
  · have hs := hm rfl
    subst hs
    unfold Lib.parseIntB
    simp only
    rw [if_pos (.inr rfl), hu]
    generalize numB 10 d = N
    rw [e63]
    have hn : (45 : UInt8).toNat = 45 := rfl
    by_cases g1 : N ≤ 18446744073709551615
    · rw [if_pos g1]
      simp only [hn, not_true_eq_false, true_and, false_and, if_false, if_true]
    · rw [if_neg g1, if_pos (by omega)]
/-- The library's error has a value. -/
def ErrV (w : World) : Prop := ∃ ev, w.cell? ⟨2, 0, none⟩ = some ev ∧ (ev = .nilIface ∨ ∃ te pe, ev = .iface te pe)
theorem ErrV.fr {w w1 : World} (h : ErrV w) (f : Fr Nil w w1) : ErrV w1 := by
  obtain ⟨ev, h1, h2⟩ := h
  exact ⟨ev, f.cell h1 (by simp [Nil]), h2⟩
theorem parseInt_ok (s : ByteArray) (v : Int) (w : World) (hs : s.size ≤ 281474976710656) (h : Lib.parseIntB 64 s.data.toList = .ok v) :
    Calls Tryz.prog 113 #[.string s, .int .i64 10, .int .i64 64] w fun e w' => e = .returned (.tuple #[.int .i64 v, .nilIface]) ∧ Fr Nil w w' :=
  (Tryz.strconv_ParseInt_10_at64_okB s (by omega) v h w).mono fun e w' ⟨h1, h2⟩ => ⟨h1, by
    rcases h2 with rfl | ⟨t, rfl⟩
    · exact Fr.refl _ _
    · exact Fr.of_below (Joins.below_bytesWorld w.heap.size w _ t (Nat.le_refl _)) (fun k hk q => by omega)⟩
theorem parseInt_range (s : ByteArray) (w : World) (hs : s.size ≤ 281474976710656) (h : Lib.parseIntB 64 s.data.toList = .range) (hE : ErrV w) :
    Calls Tryz.prog 113 #[.string s, .int .i64 10, .int .i64 64] w fun e w' => ∃ (v : Int) (N : Nat), e = .returned (.tuple #[.int .i64 v, .iface 171 (.pointer (some ⟨N, 0, none⟩))]) ∧ Fr Nil w w' := by
  obtain ⟨ev, h1, h2⟩ := hE
  exact (Tryz.strconv_ParseInt_10_at64_rangeB s hs h ev w h1 h2).mono fun e w' ⟨N, e1, _, _, e2⟩ => ⟨_, N, e1, Fr.ofBelow e2⟩
end Go.Proofs.YtlnmicddobgppaaGreatDoor
