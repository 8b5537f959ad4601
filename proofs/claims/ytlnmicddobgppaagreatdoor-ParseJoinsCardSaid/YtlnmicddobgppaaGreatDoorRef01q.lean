/-
  Contracts of the document's answer for layer 1: digit, bits. No conditions.
-/
import Derived.Test.YtlnmicddobgppaaGreatDoorBase01
namespace Go.Proofs.YtlnmicddobgppaaGreatDoor
set_option linter.unusedSimpArgs false
set_option linter.unusedVariables false
open Go.RowKit

/-- A digit's worth (99: it is none); what digits spell. -/
def dgt (c : UInt8) : Nat := if 48 ≤ c.toNat ∧ c.toNat ≤ 57 then c.toNat - 48 else if 97 ≤ c.toNat ∧ c.toNat ≤ 102 then c.toNat - 87 else 99
def numB (b : Nat) (l : List UInt8) : Nat := l.foldl (fun a c => a * b + dgt c) 0
theorem numB_snoc (b : Nat) (l : List UInt8) (c : UInt8) : numB b (l ++ [c]) = numB b l * b + dgt c := by unfold numB; rw [List.foldl_append]; rfl
theorem numB_from (b : Nat) (l : List UInt8) : ∀ (a k : Nat), a < b ^ k → (∀ c ∈ l, dgt c < b) → l.foldl (fun a c => a * b + dgt c) a < b ^ (k + l.length) := by
  induction l with
  | nil => intro a k h _; exact h
  | cons c l ih =>
    intro a k h hc
    have h2 := hc c (by simp)
    have h3 : (a + 1) * b ≤ b ^ k * b := Nat.mul_le_mul_right b h
    rw [Nat.add_mul, Nat.one_mul] at h3
    have := ih (a * b + dgt c) (k + 1) (by rw [Nat.pow_succ]; omega) (fun x hx => hc x (by simp [hx]))
    rw [List.length_cons, show k + (l.length + 1) = k + 1 + l.length by omega]
    exact this
theorem numB_lt (b : Nat) (l : List UInt8) (h : ∀ c ∈ l, dgt c < b) : numB b l < b ^ l.length := by
  have := numB_from b l 0 0 (by simp) h
  rwa [Nat.zero_add] at this
theorem dgt_le (c : UInt8) : dgt c ≤ 99 := by unfold dgt; split <;> (try split) <;> omega
theorem rdigit_any (c : UInt8) (w : World) :
    Calls Tryz.prog 127 #[.int .u8 (c.toNat : Int)] w fun e w' => e = .returned (.int .u64 (dgt c : Int)) ∧ w = w' := by
  have hc : c.toNat < 256 := UInt8.toNat_lt c
  unfold dgt
  generalize c.toNat = n at *
  have h0 : (0 : Int) ≤ (n : Int) := by omega
  by_cases h1 : 48 ≤ n ∧ n ≤ 57
  · rw [if_pos h1]
    have e1 : (48 : Int) ≤ (n : Int) := by omega
    have e2 : (n : Int) ≤ 57 := by omega
    clear h1
    go_enter Tryz.func127, Tryz.ntmps127
    go_wp2
    go_ret
    exact ⟨ret1_int (by (try simp [IntKind.wrap, IntKind.signed, IntKind.bits]); omega), rfl⟩
  · rw [if_neg h1]
    by_cases h2 : 97 ≤ n ∧ n ≤ 102
    · rw [if_pos h2]
      have e1 : (97 : Int) ≤ (n : Int) := by omega
      have e2 : (n : Int) ≤ 102 := by omega
      have e3 : (48 : Int) ≤ (n : Int) := by omega
      have e4 : ¬ (n : Int) ≤ 57 := by omega
      clear h1 h2
      go_enter Tryz.func127, Tryz.ntmps127
      go_wp2
      go_ret
      exact ⟨ret1_int (by (try simp [IntKind.wrap, IntKind.signed, IntKind.bits]); omega), rfl⟩
    · rw [if_neg h2]
      obtain ⟨p, q, r, s, e1, e2, e3, e4, hp, hr⟩ : ∃ p q r s : Bool, decide ((48 : Int) ≤ (n : Int)) = p ∧ decide ((n : Int) ≤ 57) = q ∧ decide ((97 : Int) ≤ (n : Int)) = r ∧ decide ((n : Int) ≤ 102) = s ∧ (p && q) = false ∧ (r && s) = false :=
        ⟨_, _, _, _, rfl, rfl, rfl, rfl, by simp; omega, by simp; omega⟩
      clear h1 h2
      cases p <;> cases q <;> cases r <;> cases s <;> simp at hp hr
      all_goals
        go_enter Tryz.func127, Tryz.ntmps127
        go_wp2
        go_ret
        exact ⟨rfl, rfl⟩
/-- Sixteen digits to the base 16. -/
def hexB (l : List UInt8) : Bool := l.all (fun c => decide (dgt c ≤ 15)) && decide (l.length = 16)
def bitsV (l : List UInt8) : Value := if hexB l then .tuple #[.agg #[.bool true, .int .u64 (numB 16 l)], .int .i64 0] else .tuple #[.agg #[.bool false, .int .u64 0], .int .i64 3]
theorem bitsV_bad {l : List UInt8} (h : hexB l = false) : Ending.returned (.tuple #[.agg #[.bool false, .int .u64 0], .int .i64 3]) = .returned (bitsV l) := by unfold bitsV; rw [h]; rfl
theorem bitsV_ok {l : List UInt8} (h : hexB l = true) : Ending.returned (.tuple #[.agg #[.bool true, .int .u64 (numB 16 l)], .int .i64 0]) = .returned (bitsV l) := by unfold bitsV; rw [h]; rfl
theorem byte_at (s : ByteArray) (k : Nat) (h : k < s.size) : s.data.toList[k]? = some s[k] := by
  rw [List.getElem?_eq_getElem (by simpa using h)]; rfl
theorem take_next (s : ByteArray) (k : Nat) (h : k < s.size) : s.data.toList.take (k + 1) = s.data.toList.take k ++ [s[k]] := by
  rw [List.take_succ_eq_append_getElem (by simpa using h)]; rfl
set_option maxRecDepth 100000 in
set_option maxHeartbeats 400000 in
theorem rbits_any (s : ByteArray) (w : World) (hs : s.size ≤ 9223372036854775807) :
    Calls Tryz.prog 126 #[.string s] w fun e w' => e = .returned (bitsV s.data.toList) ∧ Fr Nil w w' := by
  go_enter Tryz.func126, Tryz.ntmps126
  go_wp2
  go_loop [4, 5] (fun n i => ∃ (k v : Nat), k ≤ s.size ∧ v < 18446744073709551616 ∧ i = .int .i64 k ∧ n = .int .u64 v ∧ (∀ c ∈ s.data.toList.take k, dgt c ≤ 15) ∧ (k ≤ 16 → v = numB 16 (s.data.toList.take k))) (fun _ i => s.size - (intOf i).toNat)
  case atStart => exact ⟨0, 0, by omega, by omega, rfl, rfl, by simp, fun _ => rfl⟩
  case round =>
    obtain ⟨k, v, hk, hv, rfl, rfl, hall, hval⟩ := hrel
    have HA := Lib.hid hall
    have HV := Lib.hid hval
    clear hall hval
    by_cases hlt : k < s.size
    · have HB := Lib.hid (byte_at s k hlt)
      have HT := Lib.hid (take_next s k hlt)
      by_cases hd : 15 < dgt s[k]
      · have c1 : (15 : Int) < ((dgt s[k] : Nat) : Int) := by omega
        go_wp2_with (go_at_call 127; refine (rdigit_any _ _).mono ?_; rintro e w1 ⟨rfl, rfl⟩)
        refine bodyPost_ret (v := .tuple #[.agg #[.bool false, .int .u64 0], .int .i64 3]) (by simp [results, Tryz.results126, go_sem, *]) rfl ⟨bitsV_bad ?_, ?_⟩
        · unfold hexB
          have hm : s[k] ∈ s.data.toList := List.mem_of_getElem? HB.out
          rw [List.all_eq_false.2 ⟨_, hm, by simp; omega⟩]
          rfl
        · (repeat (first | (with_reducible exact Fr.refl _ _) | (with_reducible assumption) | (with_reducible exact Fr.of_nil (by assumption)) | (with_reducible refine Fr.drew ?_) | (with_reducible refine Fr.drewN ?_ _) | (with_reducible refine Fr.alloc ?_ _) | (with_reducible refine Fr.set ?_ _ _ (by first | (intros; omega) | (simp; done) | (simp; omega))) | (with_reducible refine Fr.via ?_ (by assumption)) | (with_reducible refine Fr.comp ?_ (by assumption))))
      · have c1 : ¬ (15 : Int) < ((dgt s[k] : Nat) : Int) := by omega
        obtain ⟨d, hdd⟩ : ∃ d, dgt s[k] = d := ⟨_, rfl⟩
        rw [hdd] at hd c1
        have HD := Lib.hid hdd
        have HN : Hid (k + 1 ≤ 16 → (v * 16 + d < 18446744073709551616 ∧ v * 16 + d = numB 16 (s.data.toList.take (k + 1)))) := Lib.hid (fun h => by
          have e := HV.out (by omega)
          rw [HT.out, numB_snoc, HD.out, ← e]
          refine ⟨?_, rfl⟩
          have h1 := numB_lt 16 (s.data.toList.take k) (fun c hc => by have := HA.out c hc; omega)
          rw [← e, List.length_take] at h1
          have h2 : 16 ^ (min k s.data.toList.length) ≤ 16 ^ 15 := Nat.pow_le_pow_right (by omega) (by omega)
          omega)
        clear hdd
        go_wp2_with (go_at_call 127; refine (rdigit_any _ _).mono ?_; rw [HD.out]; rintro e w1 ⟨rfl, rfl⟩)
        go_round
        case rel => exact ⟨k + 1, (v * 16 % 18446744073709551616 + d) % 18446744073709551616, by omega, by omega, by go_num, by simp only [u64m]; congr 1, by
            rw [HT.out]
            intro c hc
            simp at hc
            rcases hc with hc | rfl
            · exact HA.out c hc
            · rw [HD.out]; omega, fun h => by
            have := HN.out h
            omega⟩
        case measure => simp [intOf]; omega
    · obtain rfl : k = s.size := by omega
      have hl : s.data.toList.length = s.size := by simp
      have ht : s.data.toList.take s.size = s.data.toList := List.take_of_length_le (by omega)
      have HL := Lib.hid (And.intro hl ht)
      clear hl ht
      by_cases h16 : s.size = 16
      · have c1 : ((s.size : Int) == 16) = true := by simp; omega
        have c2 : ((s.size : Int) != 16) = false := by simp; omega
        have H16 := Lib.hid h16
        clear h16
        go_wp2
        refine bodyPost_ret (v := .tuple #[.agg #[.bool true, .int .u64 v], .int .i64 0]) (by simp [results, Tryz.results126, go_sem, *]) rfl ⟨?_, ?_⟩
        · have hv := HV.out (by have := H16.out; omega)
          rw [HL.out.2] at hv
          rw [hv]
          refine bitsV_ok ?_
          unfold hexB
          have ha := HA.out
          rw [HL.out.2] at ha
          rw [Bool.and_eq_true]
          exact ⟨List.all_eq_true.2 (fun c hc => by simpa using ha c hc), by rw [HL.out.1]; simpa using H16.out⟩
        · (repeat (first | (with_reducible exact Fr.refl _ _) | (with_reducible assumption) | (with_reducible exact Fr.of_nil (by assumption)) | (with_reducible refine Fr.drew ?_) | (with_reducible refine Fr.drewN ?_ _) | (with_reducible refine Fr.alloc ?_ _) | (with_reducible refine Fr.set ?_ _ _ (by first | (intros; omega) | (simp; done) | (simp; omega))) | (with_reducible refine Fr.via ?_ (by assumption)) | (with_reducible refine Fr.comp ?_ (by assumption))))
      · have c1 : ((s.size : Int) == 16) = false := by simp; omega
        have c2 : ((s.size : Int) != 16) = true := by simp; omega
        go_wp2
        refine bodyPost_ret (v := .tuple #[.agg #[.bool false, .int .u64 0], .int .i64 3]) (by simp [results, Tryz.results126, go_sem, *]) rfl ⟨bitsV_bad ?_, ?_⟩
        · unfold hexB
          rw [show decide (s.data.toList.length = 16) = false by rw [HL.out.1]; simpa using h16, Bool.and_false]
        · (repeat (first | (with_reducible exact Fr.refl _ _) | (with_reducible assumption) | (with_reducible exact Fr.of_nil (by assumption)) | (with_reducible refine Fr.drew ?_) | (with_reducible refine Fr.drewN ?_ _) | (with_reducible refine Fr.alloc ?_ _) | (with_reducible refine Fr.set ?_ _ _ (by first | (intros; omega) | (simp; done) | (simp; omega))) | (with_reducible refine Fr.via ?_ (by assumption)) | (with_reducible refine Fr.comp ?_ (by assumption))))
end Go.Proofs.YtlnmicddobgppaaGreatDoor
