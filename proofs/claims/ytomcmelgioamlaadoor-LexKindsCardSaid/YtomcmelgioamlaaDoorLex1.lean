/-
  Contracts of package lex: what bytes are; where bytes of a kind end. No conditions but sizes that memory bears.
-/
import Derived.Test.YtomcmelgioamlaaDoorRef07j
import Derived.Test.YtomcmelgioamlaaDoorShelf2
namespace Go.Proofs.YtomcmelgioamlaaDoor
set_option linter.unusedSimpArgs false
set_option linter.unusedVariables false
open Go.RowKit

def letC (c : UInt8) : Bool := smallC c || capC c
theorem letB (c : UInt8) : (decide ((97 : Int) ≤ (c.toNat : Int)) && decide ((c.toNat : Int) ≤ 122) || decide ((65 : Int) ≤ (c.toNat : Int)) && decide ((c.toNat : Int) ≤ 90)) = letC c := by
  unfold letC; rw [smallB, capB]
theorem letter_any (c : UInt8) (w : World) : Calls Tryd.prog 26 #[.int .u8 (c.toNat : Int)] w fun e w' => e = .returned (.bool (letC c)) ∧ w = w' := by
  rw [← letB]
  generalize (c.toNat : Int) = n
  go_enter Tryd.func26, Tryd.ntmps26
  go_wp2
  all_goals
    go_ret
    exact ⟨ret1_bool (by simp_all <;> (intros; omega)), rfl⟩
theorem digit_any (c : UInt8) (w : World) : Calls Tryd.prog 30 #[.int .u8 (c.toNat : Int)] w fun e w' => e = .returned (.bool (digC c)) ∧ w = w' := by
  rw [← digB]
  generalize (c.toNat : Int) = n
  go_enter Tryd.func30, Tryd.ntmps30
  go_wp2
  all_goals
    go_ret
    exact ⟨ret1_bool (by simp_all <;> (intros; omega)), rfl⟩
theorem wordB (c : UInt8) : (letC c || digC c || ((c.toNat : Int) == 95)) = wordC c := by
  unfold letC wordC
  congr 1
  rw [Bool.eq_iff_iff]
  simp only [beq_iff_eq]
  constructor
  · intro h; exact UInt8.toNat_inj.1 (by have : (95 : UInt8).toNat = 95 := rfl; omega)
  · intro h; rw [h]; rfl
theorem isword_any (c : UInt8) (w : World) : Calls Tryd.prog 42 #[.int .u8 (c.toNat : Int)] w fun e w' => e = .returned (.bool (wordC c)) ∧ w = w' := by
  rw [← wordB]
  go_enter Tryd.func42, Tryd.ntmps42
  cases h1 : letC c <;> cases h2 : digC c
  all_goals
    go_wp2_with (first
      | (go_at_call 26; refine (letter_any _ _).mono ?_; rintro e w1 ⟨rfl, rfl⟩)
      | (go_at_call 30; refine (digit_any _ _).mono ?_; rintro e w1 ⟨rfl, rfl⟩))
    go_ret
    exact ⟨rfl, rfl⟩
def noLine (c : UInt8) : Bool := (c.toNat : Int) != 10
theorem notline_any (c : UInt8) (w : World) : Calls Tryd.prog 25 #[.int .u8 (c.toNat : Int)] w fun e w' => e = .returned (.bool (noLine c)) ∧ w = w' := by
  unfold noLine
  generalize (c.toNat : Int) = n
  go_enter Tryd.func25, Tryd.ntmps25
  go_wp2
  go_ret
  exact ⟨rfl, rfl⟩
/-- How many bytes of a kind stand there. -/
def ofKind (p : UInt8 → Bool) (l : List UInt8) : Nat := (l.takeWhile p).length
theorem kind_at (p : UInt8 → Bool) (s : ByteArray) (at_ k : Nat) (h : k < ofKind p (s.data.toList.drop at_)) : ∃ h : at_ + k < s.size, p s[at_ + k] = true := by
  have hp : (s.data.toList.drop at_).takeWhile p <+: s.data.toList.drop at_ := List.takeWhile_prefix _
  have hl := hp.length_le
  rw [List.length_drop, size_of] at hl
  have h' : k < ((s.data.toList.drop at_).takeWhile p).length := h
  have hk : at_ + k < s.size := by omega
  refine ⟨hk, ?_⟩
  have h1 : ((s.data.toList.drop at_).takeWhile p)[k] = s[at_ + k] := by
    have h2 := hp.getElem h'
    rw [h2, List.getElem_drop]
    rfl
  rw [← h1]
  exact List.all_eq_true.1 (List.all_takeWhile (p := p) (l := s.data.toList.drop at_)) _ (List.getElem_mem h')
theorem kind_end (p : UInt8 → Bool) (s : ByteArray) (at_ : Nat) (h : at_ + ofKind p (s.data.toList.drop at_) < s.size) : p s[at_ + ofKind p (s.data.toList.drop at_)] = false := by
  have key : ∀ l : List UInt8, ∀ h : ofKind p l < l.length, p (l[ofKind p l]) = false := by
    intro l
    induction l with
    | nil => intro h; simp at h
    | cons c r ih =>
      intro h
      unfold ofKind at *
      by_cases hc : p c = true
      · simp only [List.takeWhile_cons, hc, if_true, List.length_cons] at h ⊢
        simp only [List.getElem_cons_succ]
        exact ih (by omega)
      · simp [List.takeWhile_cons, hc]
  have h2 := key (s.data.toList.drop at_) (by rw [List.length_drop, size_of]; omega)
  rw [List.getElem_drop] at h2
  exact h2
theorem kind_le (p : UInt8 → Bool) (s : ByteArray) (at_ : Nat) : ofKind p (s.data.toList.drop at_) ≤ s.size - at_ := by
  have := (List.takeWhile_prefix (l := s.data.toList.drop at_) p).length_le
  rw [List.length_drop, size_of] at this
  exact this
/-- The lexer's record. -/
def LexAt (w : World) (b : Nat) (s : ByteArray) (a ln : Nat) : Prop := Blk w b #[.string s, .int .i64 (a : Int), .int .i64 (ln : Int)] 45
set_option maxRecDepth 100000 in
set_option maxHeartbeats 1000000 in
theorem while_word (b : Nat) (s : ByteArray) (a ln at_ : Nat) (w : World) (h : LexAt w b s a ln) (hs : s.size ≤ 1000000) (hat : at_ ≤ s.size) :
    Calls Tryd.prog 24 #[.pointer (some ⟨b, 0, none⟩), .int .i64 at_, .func (.func 42) #[] #[]] w fun e w' => e = .returned (.int .i64 ((at_ + ofKind wordC (s.data.toList.drop at_) : Nat) : Int)) ∧ w' = w := by
  have hle := kind_le wordC s at_
  have hrun : ∀ q, at_ ≤ q → q < at_ + ofKind wordC (s.data.toList.drop at_) → ∃ h : q < s.size, wordC s[q] = true := fun q h1 h2 => by
    have := kind_at wordC s at_ (q - at_) (by omega)
    simpa only [show at_ + (q - at_) = q by omega] using this
  have hend : ∀ h : at_ + ofKind wordC (s.data.toList.drop at_) < s.size, wordC s[at_ + ofKind wordC (s.data.toList.drop at_)] = false := fun h => kind_end wordC s at_ h
  have hle2 : at_ + ofKind wordC (s.data.toList.drop at_) ≤ s.size := by omega
  have hge : at_ ≤ at_ + ofKind wordC (s.data.toList.drop at_) := by omega
  clear hle
  generalize at_ + ofKind wordC (s.data.toList.drop at_) = E at *
  have c0 := h.cell 0
  simp at c0
  have HR := Lib.hid hrun
  have HE := Lib.hid hend
  clear hrun hend h
  go_enter Tryd.func24, Tryd.ntmps24
  go_wp2_with fail
  go_loop [1] (fun i => ∃ q : Nat, at_ ≤ q ∧ q ≤ E ∧ i = .int .i64 q) (fun i => E - (intOf i).toNat)
  case atStart => exact ⟨at_, Nat.le_refl _, hge, rfl⟩
  case round =>
    obtain ⟨q, hq, hk, rfl⟩ := hrel
    have i0 : (0 : Int) ≤ (q : Int) := by omega
    by_cases hlt : q < E
    · obtain ⟨h1, h2⟩ := HR.out q hq hlt
      have b1 : (q : Int) < (s.size : Int) := by omega
      have H2 := Lib.hid h2
      clear h2
      go_wp2_with fail
      refine (isword_any _ _).mono ?_
      rintro e w1 ⟨rfl, rfl⟩
      rw [H2.out]
      go_wp2
      go_round
      case rel => exact ⟨q + 1, by omega, by omega, by go_num⟩
      case measure => simp [intOf]; omega
    · obtain rfl : q = E := by omega
      by_cases hz : q < s.size
      · have h2 := HE.out hz
        have b1 : (q : Int) < (s.size : Int) := by omega
        have H2 := Lib.hid h2
        clear h2
        go_wp2_with fail
        refine (isword_any _ _).mono ?_
        rintro e w1 ⟨rfl, rfl⟩
        rw [H2.out]
        go_wp2
        go_ret
        exact ⟨rfl, rfl⟩
      · have b1 : ¬ (q : Int) < (s.size : Int) := by omega
        go_wp2
        go_ret
        exact ⟨rfl, rfl⟩
set_option maxRecDepth 100000 in
set_option maxHeartbeats 1000000 in
theorem while_note (b : Nat) (s : ByteArray) (a ln at_ : Nat) (w : World) (h : LexAt w b s a ln) (hs : s.size ≤ 1000000) (hat : at_ ≤ s.size) :
    Calls Tryd.prog 24 #[.pointer (some ⟨b, 0, none⟩), .int .i64 at_, .func (.func 25) #[] #[]] w fun e w' => e = .returned (.int .i64 ((at_ + ofKind noLine (s.data.toList.drop at_) : Nat) : Int)) ∧ w' = w := by
  have hle := kind_le noLine s at_
  have hrun : ∀ q, at_ ≤ q → q < at_ + ofKind noLine (s.data.toList.drop at_) → ∃ h : q < s.size, noLine s[q] = true := fun q h1 h2 => by
    have := kind_at noLine s at_ (q - at_) (by omega)
    simpa only [show at_ + (q - at_) = q by omega] using this
  have hend : ∀ h : at_ + ofKind noLine (s.data.toList.drop at_) < s.size, noLine s[at_ + ofKind noLine (s.data.toList.drop at_)] = false := fun h => kind_end noLine s at_ h
  have hle2 : at_ + ofKind noLine (s.data.toList.drop at_) ≤ s.size := by omega
  have hge : at_ ≤ at_ + ofKind noLine (s.data.toList.drop at_) := by omega
  clear hle
  generalize at_ + ofKind noLine (s.data.toList.drop at_) = E at *
  have c0 := h.cell 0
  simp at c0
  have HR := Lib.hid hrun
  have HE := Lib.hid hend
  clear hrun hend h
  go_enter Tryd.func24, Tryd.ntmps24
  go_wp2_with fail
  go_loop [1] (fun i => ∃ q : Nat, at_ ≤ q ∧ q ≤ E ∧ i = .int .i64 q) (fun i => E - (intOf i).toNat)
  case atStart => exact ⟨at_, Nat.le_refl _, hge, rfl⟩
  case round =>
    obtain ⟨q, hq, hk, rfl⟩ := hrel
    have i0 : (0 : Int) ≤ (q : Int) := by omega
    by_cases hlt : q < E
    · obtain ⟨h1, h2⟩ := HR.out q hq hlt
      have b1 : (q : Int) < (s.size : Int) := by omega
      have H2 := Lib.hid h2
      clear h2
      go_wp2_with fail
      refine (notline_any _ _).mono ?_
      rintro e w1 ⟨rfl, rfl⟩
      rw [H2.out]
      go_wp2
      go_round
      case rel => exact ⟨q + 1, by omega, by omega, by go_num⟩
      case measure => simp [intOf]; omega
    · obtain rfl : q = E := by omega
      by_cases hz : q < s.size
      · have h2 := HE.out hz
        have b1 : (q : Int) < (s.size : Int) := by omega
        have H2 := Lib.hid h2
        clear h2
        go_wp2_with fail
        refine (notline_any _ _).mono ?_
        rintro e w1 ⟨rfl, rfl⟩
        rw [H2.out]
        go_wp2
        go_ret
        exact ⟨rfl, rfl⟩
      · have b1 : ¬ (q : Int) < (s.size : Int) := by omega
        go_wp2
        go_ret
        exact ⟨rfl, rfl⟩
end Go.Proofs.YtomcmelgioamlaaDoor
