/-
  Contracts of the document's answer for layer 7: what is passed over. No conditions but sizes that memory bears.
-/
import Derived.Test.YthpenpgcacikaaaRef07c
namespace Go.Proofs.Ythpenpgcacikaaa
set_option linter.unusedSimpArgs false
set_option linter.unusedVariables false
open Go.RowKit

theorem drop_cons (s : ByteArray) (a : Nat) (h : a < s.size) : s.data.toList.drop a = s[a] :: s.data.toList.drop (a + 1) := by
  rw [List.drop_eq_getElem_cons (by simpa using h)]; rfl
theorem drop_end (s : ByteArray) (a : Nat) (h : s.size ≤ a) : s.data.toList.drop a = [] := List.drop_eq_nil_of_le (by simpa using h)
theorem u8_of {c d : UInt8} {n : Nat} (h : c.toNat = n) (hd : d.toNat = n) : c = d := UInt8.toNat_inj.1 (h.trans hd.symm)
theorem skip_remark (s : ByteArray) (a line : Nat) (h : a < s.size) (g : s[a].toNat = 45) (h1 : a + 1 < s.size) (g1 : s[a + 1].toNat = 45) : skipF false (s.data.toList.drop a) line = skipF true (s.data.toList.drop a) line := by
  rw [drop_cons s a h]
  have e : s[a] = 45 := u8_of g rfl
  have e1 : s[a + 1] = 45 := u8_of g1 rfl
  rw [e]
  unfold skipF
  rw [if_pos ⟨rfl, by rw [drop_cons s (a + 1) h1, e1]; rfl⟩, if_neg (by decide)]
theorem skip_in (s : ByteArray) (a line : Nat) (h : a < s.size) (g : s[a].toNat ≠ 10) : skipF true (s.data.toList.drop a) line = skipF true (s.data.toList.drop (a + 1)) line := by
  rw [drop_cons s a h]
  conv => lhs; unfold skipF
  rw [if_neg (fun e => g (by rw [e]; rfl))]
theorem skip_out (s : ByteArray) (a line : Nat) (h : a < s.size) (g : s[a].toNat = 10) : skipF true (s.data.toList.drop a) line = skipF false (s.data.toList.drop a) line := by
  rw [drop_cons s a h]
  have e : s[a] = 10 := u8_of g rfl
  rw [e]
  unfold skipF
  rw [if_pos rfl, if_neg (fun q => absurd q.1 (by decide)), if_pos rfl]
theorem skip_over (s : ByteArray) (a line : Nat) (h : s.size ≤ a) : skipF true (s.data.toList.drop a) line = skipF false (s.data.toList.drop a) line := by
  rw [drop_end s a h]; rfl
theorem skip_line (s : ByteArray) (a line : Nat) (h : a < s.size) (g : s[a].toNat = 10) : skipF false (s.data.toList.drop a) line = skipF false (s.data.toList.drop (a + 1)) (line + 1) := by
  rw [drop_cons s a h]
  have e : s[a] = 10 := u8_of g rfl
  rw [e]
  conv => lhs; unfold skipF
  rw [if_neg (fun q => absurd q.1 (by decide)), if_pos rfl]
theorem skip_blank (s : ByteArray) (a line : Nat) (h : a < s.size) (g : s[a].toNat = 9 ∨ s[a].toNat = 13 ∨ s[a].toNat = 32) : skipF false (s.data.toList.drop a) line = skipF false (s.data.toList.drop (a + 1)) line := by
  rw [drop_cons s a h]
  have e : s[a] = 9 ∨ s[a] = 13 ∨ s[a] = 32 := by
    rcases g with g | g | g
    · exact .inl (u8_of g rfl)
    · exact .inr (.inl (u8_of g rfl))
    · exact .inr (.inr (u8_of g rfl))
  conv => lhs; unfold skipF
  rcases e with e | e | e <;> rw [e, if_neg (fun q => absurd q.1 (by decide)), if_neg (by decide), if_pos (by simp)]
theorem skip_stop (s : ByteArray) (a line : Nat) (h : a < s.size) (g : s[a].toNat ≠ 9 ∧ s[a].toNat ≠ 10 ∧ s[a].toNat ≠ 13 ∧ s[a].toNat ≠ 32) (g1 : s[a].toNat ≠ 45 ∨ s.size ≤ a + 1 ∨ ∃ h : a + 1 < s.size, s[a + 1].toNat ≠ 45) :
    skipF false (s.data.toList.drop a) line = (s.data.toList.drop a, line) := by
  rw [drop_cons s a h]
  unfold skipF
  rw [if_neg, if_neg (fun e => g.2.1 (by rw [e]; rfl)), if_neg]
  · rintro (e | e | e)
    · exact g.1 (by rw [e]; rfl)
    · exact g.2.2.1 (by rw [e]; rfl)
    · exact g.2.2.2 (by rw [e]; rfl)
  · rintro ⟨e1, e2⟩
    rcases g1 with g1 | g1 | ⟨h1, g1⟩
    · exact g1 (by rw [e1]; rfl)
    · rw [drop_end s _ g1] at e2; cases e2
    · rw [drop_cons s _ h1] at e2
      simp at e2
      exact g1 (by rw [e2]; rfl)
theorem skip_nil (s : ByteArray) (a line : Nat) (h : s.size ≤ a) : skipF false (s.data.toList.drop a) line = (s.data.toList.drop a, line) := by
  rw [drop_end s a h]; rfl
def skipAt (s : ByteArray) (T : List UInt8 × Nat) : Value := .tuple #[.int .i64 ((s.size - T.1.length : Nat) : Int), .int .i64 (T.2 : Int)]
theorem skipAt_eq (s : ByteArray) (T : List UInt8 × Nat) (a line : Nat) (ha : a ≤ s.size) (h : T = (s.data.toList.drop a, line)) : Ending.returned (.tuple #[.int .i64 (a : Int), .int .i64 (line : Int)]) = .returned (skipAt s T) := by
  rw [h]
  unfold skipAt
  have e : s.size - (s.data.toList.drop a).length = a := by
    rw [List.length_drop]
    have : s.data.toList.length = s.size := by simp
    omega
  simp only [e]
set_option maxRecDepth 100000 in
set_option maxHeartbeats 2000000 in
theorem skip_any (s : ByteArray) (at_ line : Nat) (w : World) (hs : s.size ≤ 1000000) (hat : at_ ≤ s.size) (hl : line + s.size ≤ 10000000) :
    Calls Try.prog 35 #[.string s, .int .i64 at_, .int .i64 line] w fun e w' => e = .returned (skipAt s (skipF false (s.data.toList.drop at_) line)) ∧ w = w' := by
  obtain ⟨T, hT⟩ : ∃ T, skipF false (s.data.toList.drop at_) line = T := ⟨_, rfl⟩
  rw [hT]
  have HT := Lib.hid hT
  clear hT
  go_enter Try.func35, Try.ntmps35
  go_wp2_with fail
  go_loop [1, 2] (fun i n => ∃ a ln : Nat, a ≤ s.size ∧ ln ≤ line + a ∧ i = .int .i64 a ∧ n = .int .i64 ln ∧ Hid (skipF false (s.data.toList.drop a) ln = T)) (fun i _ => s.size - (intOf i).toNat)
  case atStart => exact ⟨at_, line, hat, by omega, rfl, rfl, HT⟩
  case round =>
    obtain ⟨a, ln, ha, hln, rfl, rfl, HR⟩ := hrel
    clear HT
    by_cases hz : a < s.size
    · have i0 : (0 : Int) ≤ (a : Int) := by omega
      have i1 : (a : Int) < (s.size : Int) := by omega
      obtain ⟨n, hn⟩ : ∃ n, s[a].toNat = n := ⟨_, rfl⟩
      have HN := Lib.hid hn
      by_cases h45 : n = 45
      · have c0 : ((s[a].toNat : Int) == 45) = true := by rw [hn, h45]; rfl
        have c1 : ((s[a].toNat : Int) != 9) = true := by rw [hn, h45]; rfl
        have c2 : ((s[a].toNat : Int) != 10) = true := by rw [hn, h45]; rfl
        have c3 : ((s[a].toNat : Int) != 13) = true := by rw [hn, h45]; rfl
        have c4 : ((s[a].toNat : Int) != 32) = true := by rw [hn, h45]; rfl
        by_cases hz1 : a + 1 < s.size
        · have i2 : (a : Int) + 1 < (s.size : Int) := by omega
          by_cases h1 : s[a + 1].toNat = 45
          · have c5 : ((s[a + 1].toNat : Int) == 45) = true := by rw [h1]; rfl
            have HM := Lib.hid (skip_remark s a ln hz (by omega) hz1 h1)
            clear hn h1 c1 c2 c3 c4
            go_wp2_with fail
            go_loop [1] (fun i => ∃ d : Nat, a ≤ d ∧ d ≤ s.size ∧ i = .int .i64 d ∧ Hid (skipF true (s.data.toList.drop d) ln = T)) (fun i => s.size - (intOf i).toNat)
            case atStart => exact ⟨a, Nat.le_refl _, ha, rfl, Lib.hid (by rw [← HR.out, HM.out])⟩
            case round =>
              obtain ⟨d, had, hd, rfl, HD⟩ := hrel
              have j0 : (0 : Int) ≤ (d : Int) := by omega
              by_cases hd1 : d < s.size
              · have j1 : (d : Int) < (s.size : Int) := by omega
                by_cases h10 : s[d].toNat = 10
                · have e1 : ((s[d].toNat : Int) != 10) = false := by rw [h10]; rfl
                  have HS := Lib.hid (skip_out s d ln hd1 h10)
                  have hlt : a < d := by
                    rcases Nat.lt_or_ge a d with q | q
                    · exact q
                    · obtain rfl : a = d := by omega
                      have := HN.out
                      omega
                  clear h10
                  go_wp2
                  go_round
                  case rel => exact ⟨d, ln, hd, by omega, rfl, rfl, Lib.hid (by rw [← HS.out]; exact HD.out)⟩
                  case measure => simp [intOf]; omega
                · have e1 : ((s[d].toNat : Int) != 10) = true := by simp; omega
                  have HS := Lib.hid (skip_in s d ln hd1 h10)
                  clear h10
                  go_wp2
                  go_round
                  case rel => exact ⟨d + 1, by omega, by omega, by go_num, Lib.hid (by rw [← HS.out]; exact HD.out)⟩
                  case measure => simp [intOf]; omega
              · have HS := Lib.hid (skip_over s d ln (by omega))
                go_wp2
                go_round
                case rel => exact ⟨d, ln, hd, by omega, rfl, rfl, Lib.hid (by rw [← HS.out]; exact HD.out)⟩
                case measure => simp [intOf]; omega
          · have c5 : ((s[a + 1].toNat : Int) == 45) = false := by simp; omega
            clear hn
            go_wp2
            go_ret2
            exact ⟨skipAt_eq s T a ln ha (by rw [← HR.out]; exact skip_stop s a ln hz (by have := HN.out; omega) (.inr (.inr ⟨hz1, h1⟩))), rfl⟩
        · have i2 : ¬ (a : Int) + 1 < (s.size : Int) := by omega
          clear hn
          go_wp2
          go_ret2
          exact ⟨skipAt_eq s T a ln ha (by rw [← HR.out]; exact skip_stop s a ln hz (by have := HN.out; omega) (.inr (.inl (by omega)))), rfl⟩
      · have c0 : ((s[a].toNat : Int) == 45) = false := by rw [hn]; simp; omega
        by_cases h10 : n = 10
        · have c1 : ((s[a].toNat : Int) != 9) = true := by rw [hn, h10]; rfl
          have c2 : ((s[a].toNat : Int) != 10) = false := by rw [hn, h10]; rfl
          have c3 : ((s[a].toNat : Int) == 10) = true := by rw [hn, h10]; rfl
          have HS := Lib.hid (skip_line s a ln hz (by omega))
          clear hn
          go_wp2
          go_round
          case rel => exact ⟨a + 1, ln + 1, by omega, by omega, by go_num, by go_num, Lib.hid (by rw [← HS.out]; exact HR.out)⟩
          case measure => simp [intOf]; omega
        · have c3 : ((s[a].toNat : Int) == 10) = false := by rw [hn]; simp; omega
          have c2 : ((s[a].toNat : Int) != 10) = true := by rw [hn]; simp; omega
          by_cases hb : n = 9 ∨ n = 13 ∨ n = 32
          · have HS := Lib.hid (skip_blank s a ln hz (by omega))
            rcases hb with hb | hb | hb
            · have c1 : ((s[a].toNat : Int) != 9) = false := by rw [hn, hb]; rfl
              clear hn hb
              go_wp2
              go_round
              case rel => exact ⟨a + 1, ln, by omega, by omega, by go_num, rfl, Lib.hid (by rw [← HS.out]; exact HR.out)⟩
              case measure => simp [intOf]; omega
            · have c1 : ((s[a].toNat : Int) != 9) = true := by rw [hn, hb]; rfl
              have c4 : ((s[a].toNat : Int) != 13) = false := by rw [hn, hb]; rfl
              clear hn hb
              go_wp2
              go_round
              case rel => exact ⟨a + 1, ln, by omega, by omega, by go_num, rfl, Lib.hid (by rw [← HS.out]; exact HR.out)⟩
              case measure => simp [intOf]; omega
            · have c1 : ((s[a].toNat : Int) != 9) = true := by rw [hn, hb]; rfl
              have c4 : ((s[a].toNat : Int) != 13) = true := by rw [hn, hb]; rfl
              have c5 : ((s[a].toNat : Int) != 32) = false := by rw [hn, hb]; rfl
              clear hn hb
              go_wp2
              go_round
              case rel => exact ⟨a + 1, ln, by omega, by omega, by go_num, rfl, Lib.hid (by rw [← HS.out]; exact HR.out)⟩
              case measure => simp [intOf]; omega
          · have c1 : ((s[a].toNat : Int) != 9) = true := by rw [hn]; simp; omega
            have c4 : ((s[a].toNat : Int) != 13) = true := by rw [hn]; simp; omega
            have c5 : ((s[a].toNat : Int) != 32) = true := by rw [hn]; simp; omega
            clear hn
            go_wp2
            go_ret2
            exact ⟨skipAt_eq s T a ln ha (by rw [← HR.out]; exact skip_stop s a ln hz (by have := HN.out; omega) (.inl (by have := HN.out; omega))), rfl⟩
    · go_wp2
      go_ret2
      exact ⟨skipAt_eq s T a ln ha (by rw [← HR.out]; exact skip_nil s a ln (by omega)), rfl⟩
end Go.Proofs.Ythpenpgcacikaaa
