/-
  Contracts of Go's library: ParseUint of sixteen digits to the base 16. No conditions.
-/
import Derived.Test.YtlnmicddobgppaaGreatDoorRef01q
import Derived.Lib.Strings
import Derived.Lib.ConvBytes
import Derived.Lib.SmallJoins
namespace Go.Proofs.YtlnmicddobgppaaGreatDoor
set_option linter.unusedSimpArgs false
set_option linter.unusedVariables false
open Go.RowKit

theorem ret2_n {a b : Int} (h : a = b) : Ending.returned (.tuple #[.int .u64 a, .nilIface]) = .returned (.tuple #[.int .u64 b, .nilIface]) := by rw [h]
theorem lower_any (n : Nat) (w : World) (h : 97 ≤ n) (h' : n ≤ 102) :
    Calls Tryz.prog 147 #[.int .u8 (n : Int)] w fun e w' => e = .returned (.int .u8 (n : Int)) ∧ w = w' := by
  have h6 : n = 97 ∨ n = 98 ∨ n = 99 ∨ n = 100 ∨ n = 101 ∨ n = 102 := by omega
  clear h h'
  rcases h6 with rfl | rfl | rfl | rfl | rfl | rfl
  all_goals
    go_enter Tryz.func147, Tryz.ntmps147
    go_wp2
    go_ret
    exact ⟨rfl, rfl⟩
theorem dgt_cases (c : UInt8) (h : dgt c ≤ 15) : (48 ≤ c.toNat ∧ c.toNat ≤ 57 ∧ dgt c = c.toNat - 48) ∨ (97 ≤ c.toNat ∧ c.toNat ≤ 102 ∧ dgt c = c.toNat - 87) := by
  unfold dgt at *
  by_cases h1 : 48 ≤ c.toNat ∧ c.toNat ≤ 57
  · rw [if_pos h1]; exact .inl ⟨h1.1, h1.2, rfl⟩
  · rw [if_neg h1] at h ⊢
    by_cases h2 : 97 ≤ c.toNat ∧ c.toNat ≤ 102
    · rw [if_pos h2]; exact .inr ⟨h2.1, h2.2, rfl⟩
    · rw [if_neg h2] at h; omega
set_option maxRecDepth 100000 in
set_option maxHeartbeats 1000000 in
theorem parse16_in (s : ByteArray) (w : World) (hs : s.size = 16) (hd : ∀ c ∈ s.data.toList, dgt c ≤ 15) :
    Calls Tryz.prog 130 #[.string s, .int .i64 16, .int .i64 64] w fun e w' => e = .returned (.tuple #[.int .u64 (numB 16 s.data.toList), .nilIface]) ∧ Fr Nil w w' := by
  have e2 : s.toList.isEmpty = false := by
    cases h : s.toList with
    | nil =>
      exfalso
      rw [Lib.toList_data] at h
      have q : s.data.toList.length = s.size := by simp
      rw [h] at q
      simp only [List.length_nil] at q
      omega
    | cons c l => rfl
  have e3 : (s.toList == []) = false := by
    cases h : s.toList with
    | nil => rw [h] at e2; cases e2
    | cons c l => rfl
  have em : IntKind.u64.wrap (IntKind.u64.wrap 18446744073709551616 - 1) = 18446744073709551615 := by decide
  have hcv := Lib.run_convert_string_bytes (P := Tryz.prog) w 9 106 5 s Tryz.underlying9 Tryz.underlying106 Tryz.underlying5
  obtain ⟨W, hW⟩ : ∃ W, Lib.bytesWorld w 5 s = W := ⟨_, rfl⟩
  obtain ⟨cap, hcap⟩ : ∃ c, grownCap w s.size 0 5 = c := ⟨_, rfl⟩
  rw [hW, hcap] at hcv
  have hcell : ∀ j (hj : j < s.size), W.cell? ⟨w.heap.size, j, none⟩ = some (.int .u8 ((s[j].toNat : Nat) : Int)) := by
    intro j hj
    rw [← hW]
    have := Lib.bytesWorld_cell w 5 s j hj
    rw [this]
    have hj2 : j < s.data.toList.length := by simpa using hj
    rw [List.getD_eq_getElem?_getD, List.getElem?_eq_getElem hj2]
    rfl
  have hfr : Fr Nil w W := by
    rw [← hW]
    exact Fr.of_below (Joins.below_bytesWorld w.heap.size w _ s (Nat.le_refl _)) (fun k hk q => by omega)
  have HC := Lib.hid hcell
  have HF := Lib.hid hfr
  have hs16 : (s.size : Int) = 16 := by omega
  have HS := Lib.hid hs
  clear hW hcap hcell hfr hs
  go_enter Tryz.func130, Tryz.ntmps130
  go_wp2
  go_loop [12, 13, 101] (fun u n i => ∃ k : Nat, k ≤ s.size ∧ u = .bool false ∧ i = .int .i64 k ∧ n = .int .u64 ((numB 16 (s.data.toList.take k) : Nat) : Int)) (fun _ _ i => s.size - (intOf i).toNat)
  case atStart => exact ⟨0, by omega, rfl, rfl, rfl⟩
  case round =>
    obtain ⟨k, hk, rfl, rfl, rfl⟩ := hrel
    by_cases hlt : k < s.size
    · have hb := byte_at s k hlt
      have hc15 := hd s[k] (List.mem_of_getElem? hb)
      have hcell := HC.out k hlt
      have HT := Lib.hid (take_next s k hlt)
      have hk16 : k < 16 := by have := HS.out; omega
      have hlt2 := numB_lt 16 (s.data.toList.take k) (fun c hc => by have := hd c (List.mem_of_mem_take hc); omega)
      have hn60 : numB 16 (s.data.toList.take k) < 1152921504606846976 := by
        refine Nat.lt_of_lt_of_le hlt2 ?_
        rw [List.length_take]
        exact Nat.le_trans (Nat.pow_le_pow_right (by omega) (by omega : min k s.data.toList.length ≤ 15)) (by decide)
      have HN : Hid (numB 16 (s.data.toList.take (k + 1)) = numB 16 (s.data.toList.take k) * 16 + dgt s[k]) := Lib.hid (by rw [HT.out, numB_snoc])
      have hki : (k : Int) < 16 := by omega
      obtain ⟨v, hv⟩ : ∃ v, numB 16 (s.data.toList.take k) = v := ⟨_, rfl⟩
      rw [hv] at hn60 HN
      rw [hv]
      obtain ⟨c, hcc⟩ : ∃ c, s[k].toNat = c := ⟨_, rfl⟩
      rw [hcc] at hcell
      have hdc := dgt_cases s[k] hc15
      rw [hcc] at hdc
      clear hv hb hlt2 hcc hc15
      obtain ⟨z, hz⟩ : ∃ z : Int, (v : Int) = z := ⟨_, rfl⟩
      have hv0 : z < 1152921504606846976 := by omega
      have hv1 : 0 ≤ z := by omega
      rw [hz]
      have HZ := Lib.hid hz
      clear hz
      have HD0 := Lib.hid hd
      clear hn60 hd
      rcases hdc with ⟨d1, d2, d3⟩ | ⟨d1, d2, d3⟩
      · have c1 : (48 : Int) ≤ (c : Int) := by omega
        have c2 : (c : Int) ≤ 57 := by omega
        have c3 : ((c : Int) == 95) = false := by simp; omega
        have HD := Lib.hid d3
        clear d3
        go_wp2
        go_round
        case rel => exact ⟨k + 1, by omega, rfl, by go_num, by rw [HN.out, HD.out]; refine congrArg _ ?_; have := HZ.out; omega⟩
        case measure => simp [intOf]; omega
      · have c1 : (97 : Int) ≤ (c : Int) := by omega
        have c2 : (c : Int) ≤ 102 := by omega
        have c3 : ((c : Int) == 95) = false := by simp; omega
        have c4 : (48 : Int) ≤ (c : Int) := by omega
        have c5 : ¬ (c : Int) ≤ 57 := by omega
        have HD := Lib.hid d3
        clear d3
        go_wp2_with (go_at_call 147; refine (lower_any c _ d1 d2).mono ?_; rintro e w1 ⟨rfl, rfl⟩)
        go_round
        case rel => exact ⟨k + 1, by omega, rfl, by go_num, by rw [HN.out, HD.out]; refine congrArg _ ?_; have := HZ.out; omega⟩
        case measure => simp [intOf]; omega
    · obtain rfl : k = s.size := by omega
      have ht : s.data.toList.take s.size = s.data.toList := List.take_of_length_le (by simp)
      have HT := Lib.hid ht
      clear ht hd
      go_wp2
      go_ret2
      exact ⟨ret2_n (by rw [HT.out]), HF.out⟩
theorem parse16_any (s : ByteArray) (w : World) (hs : s.size = 16) (hd : ∀ c ∈ s.data.toList, dgt c ≤ 15) :
    Calls Tryz.prog 112 #[.string s, .int .i64 16, .int .i64 64] w fun e w' => e = .returned (.tuple #[.int .u64 (numB 16 s.data.toList), .nilIface]) ∧ Fr Nil w w' := by
  have HS := Lib.hid hs
  have HD := Lib.hid hd
  clear hs hd
  go_enter Tryz.func112, Tryz.ntmps112
  go_wp2_with fail
  refine (parse16_in s _ HS.out HD.out).mono ?_
  rintro e w1 ⟨rfl, f1⟩
  go_wp2
  go_ret2
  exact ⟨rfl, by (repeat (first | (with_reducible exact Fr.refl _ _) | (with_reducible assumption) | (with_reducible exact Fr.of_nil (by assumption)) | (with_reducible refine Fr.drew ?_) | (with_reducible refine Fr.drewN ?_ _) | (with_reducible refine Fr.alloc ?_ _) | (with_reducible refine Fr.set ?_ _ _ (by first | (intros; omega) | (simp; done) | (simp; omega))) | (with_reducible refine Fr.via ?_ (by assumption)) | (with_reducible refine Fr.comp ?_ (by assumption))))⟩
end Go.Proofs.YtlnmicddobgppaaGreatDoor
