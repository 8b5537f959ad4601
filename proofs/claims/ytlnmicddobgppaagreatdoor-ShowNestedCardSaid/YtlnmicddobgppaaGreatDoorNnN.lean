/-
  Contracts of package lex: what bytes are; where bytes of a kind end. No conditions but sizes that memory bears. Contracts of package lex: what parts tokens. No conditions but sizes that memory bears. Contracts of package lex: a run's kind. No conditions but sizes that memory bears.
-/
import Derived.Test.YtlnmicddobgppaaGreatDoorShelf2
import Derived.Test.YtlnmicddobgppaaGreatDoorNnE
import Derived.Test.YtlnmicddobgppaaGreatDoorNnM
import Derived.Test.YtlnmicddobgppaaGreatDoorNnA
namespace Go.Proofs.YtlnmicddobgppaaGreatDoor
set_option maxRecDepth 100000
set_option linter.unusedSimpArgs false
set_option linter.unusedVariables false
open Go.RowKit
def letC (c : UInt8) : Bool := smallC c || capC c
theorem letB (c : UInt8) : (decide ((97 : Int) ≤ (c.toNat : Int)) && decide ((c.toNat : Int) ≤ 122) || decide ((65 : Int) ≤ (c.toNat : Int)) && decide ((c.toNat : Int) ≤ 90)) = letC c := by
 unfold letC; rw [smallB, capB]
theorem letter_any (c : UInt8) (w : World) : Calls Tryz.prog 50 #[.int .u8 (c.toNat : Int)] w fun e w' => e = .returned (.bool (letC c)) ∧ w = w' := by
 rw [← letB]
 generalize (c.toNat : Int) = n
 go_enter Tryz.func50, Tryz.ntmps50
 go_wp2
 all_goals
  go_ret
  exact ⟨ret1_bool (by simp_all <;> (intros; omega)), rfl⟩
theorem digit_any (c : UInt8) (w : World) : Calls Tryz.prog 54 #[.int .u8 (c.toNat : Int)] w fun e w' => e = .returned (.bool (digC c)) ∧ w = w' := by
 rw [← digB]
 generalize (c.toNat : Int) = n
 go_enter Tryz.func54, Tryz.ntmps54
 go_wp2
 all_goals
  go_ret
  exact ⟨ret1_bool (by simp_all <;> (intros; omega)), rfl⟩
theorem wordB (c : UInt8) : (letC c || digC c || ((c.toNat : Int) == 95)) = wordC c := by
 unfold letC wordC
 congr 1
 rw [Bool.eq_iff_iff]
 simp only [beq_iff_eq]
 constructor
 · intro h; exact UInt8.toNat_inj.1 (by have : (95 : UInt8).toNat = 95 := rfl; omega)
 · intro h; rw [h]; rfl
theorem isword_any (c : UInt8) (w : World) : Calls Tryz.prog 88 #[.int .u8 (c.toNat : Int)] w fun e w' => e = .returned (.bool (wordC c)) ∧ w = w' := by
 rw [← wordB]
 go_enter Tryz.func88, Tryz.ntmps88
 cases h1 : letC c <;> cases h2 : digC c
 all_goals
  go_wp2_with (first
   | (go_at_call 50; refine (letter_any _ _).mono ?_; rintro e w1 ⟨rfl, rfl⟩)
   | (go_at_call 54; refine (digit_any _ _).mono ?_; rintro e w1 ⟨rfl, rfl⟩))
  go_ret
  exact ⟨rfl, rfl⟩
def noLine (c : UInt8) : Bool := (c.toNat : Int) != 10
theorem notline_any (c : UInt8) (w : World) : Calls Tryz.prog 49 #[.int .u8 (c.toNat : Int)] w fun e w' => e = .returned (.bool (noLine c)) ∧ w = w' := by
 unfold noLine
 generalize (c.toNat : Int) = n
 go_enter Tryz.func49, Tryz.ntmps49
 go_wp2
 go_ret
 exact ⟨rfl, rfl⟩
def ofKind (p : UInt8 → Bool) (l : List UInt8) : Nat := (l.takeWhile p).length
theorem kind_at (p : UInt8 → Bool) (s : ByteArray) (at_ k : Nat) (h : k < ofKind p (s.data.toList.drop at_)) : ∃ h : at_ + k < s.size, p s[at_ + k] = true := by
 have hp : (s.data.toList.drop at_).takeWhile p <+: s.data.toList.drop at_ := List.takeWhile_prefix _
 have hl := hp.length_le
 rw [List.length_drop, size_of] at hl
 have h' : k < ((s.data.toList.drop at_).takeWhile p).length := h
 have hk : at_ + k < s.size := by omega
 refine ⟨hk, ?_⟩
 have h1 : ((s.data.toList.drop at_).takeWhile p)[k] = s[at_ + k] := by
  have h2 := hp.getElem h'
  rw [h2, List.getElem_drop]
  rfl
 rw [← h1]
 exact List.all_eq_true.1 (List.all_takeWhile (p := p) (l := s.data.toList.drop at_)) _ (List.getElem_mem h')
theorem kind_end (p : UInt8 → Bool) (s : ByteArray) (at_ : Nat) (h : at_ + ofKind p (s.data.toList.drop at_) < s.size) : p s[at_ + ofKind p (s.data.toList.drop at_)] = false := by
 have key : ∀ l : List UInt8, ∀ h : ofKind p l < l.length, p (l[ofKind p l]) = false := by
  intro l
  induction l with
  | nil => intro h; simp at h
  | cons c r ih =>
   intro h
   unfold ofKind at *
   by_cases hc : p c = true
   · simp only [List.takeWhile_cons, hc, if_true, List.length_cons] at h ⊢
     simp only [List.getElem_cons_succ]
     exact ih (by omega)
   · simp [List.takeWhile_cons, hc]
 have h2 := key (s.data.toList.drop at_) (by rw [List.length_drop, size_of]; omega)
 rw [List.getElem_drop] at h2
 exact h2
theorem kind_le (p : UInt8 → Bool) (s : ByteArray) (at_ : Nat) : ofKind p (s.data.toList.drop at_) ≤ s.size - at_ := by
 have := (List.takeWhile_prefix (l := s.data.toList.drop at_) p).length_le
 rw [List.length_drop, size_of] at this
 exact this
def LexAt (w : World) (b : Nat) (s : ByteArray) (a ln : Nat) : Prop := Blk w b #[.string s, .int .i64 (a : Int), .int .i64 (ln : Int)] 71
set_option maxHeartbeats 1000000 in
theorem while_word (b : Nat) (s : ByteArray) (a ln at_ : Nat) (w : World) (h : LexAt w b s a ln) (hs : s.size ≤ 140737488355328) (hat : at_ ≤ s.size) :
 Calls Tryz.prog 48 #[.pointer (some ⟨b, 0, none⟩), .int .i64 at_, .func (.func 88) #[] #[]] w fun e w' => e = .returned (.int .i64 ((at_ + ofKind wordC (s.data.toList.drop at_) : Nat) : Int)) ∧ w' = w := by
 have hle := kind_le wordC s at_
 have hrun : ∀ q, at_ ≤ q → q < at_ + ofKind wordC (s.data.toList.drop at_) → ∃ h : q < s.size, wordC s[q] = true := fun q h1 h2 => by
  have := kind_at wordC s at_ (q - at_) (by omega)
  simpa only [show at_ + (q - at_) = q by omega] using this
 have hend : ∀ h : at_ + ofKind wordC (s.data.toList.drop at_) < s.size, wordC s[at_ + ofKind wordC (s.data.toList.drop at_)] = false := fun h => kind_end wordC s at_ h
 have hle2 : at_ + ofKind wordC (s.data.toList.drop at_) ≤ s.size := by omega
 have hge : at_ ≤ at_ + ofKind wordC (s.data.toList.drop at_) := by omega
 clear hle
 generalize at_ + ofKind wordC (s.data.toList.drop at_) = E at *
 have c0 := h.cell 0
 simp at c0
 have HR := Lib.hid hrun
 have HE := Lib.hid hend
 clear hrun hend h
 go_enter Tryz.func48, Tryz.ntmps48
 go_wp2_with fail
 go_loop [1] (fun i => ∃ q : Nat, at_ ≤ q ∧ q ≤ E ∧ i = .int .i64 q) (fun i => E - (intOf i).toNat)
 case atStart => exact ⟨at_, Nat.le_refl _, hge, rfl⟩
 case round =>
  obtain ⟨q, hq, hk, rfl⟩ := hrel
  have i0 : (0 : Int) ≤ (q : Int) := by omega
  by_cases hlt : q < E
  · obtain ⟨h1, h2⟩ := HR.out q hq hlt
    have b1 : (q : Int) < (s.size : Int) := by omega
    have H2 := Lib.hid h2
    clear h2
    go_wp2_with fail
    refine (isword_any _ _).mono ?_
    rintro e w1 ⟨rfl, rfl⟩
    rw [H2.out]
    go_wp2
    go_round
    case rel => exact ⟨q + 1, by omega, by omega, by go_num⟩
    case measure => simp [intOf]; omega
  · obtain rfl : q = E := by omega
    by_cases hz : q < s.size
    · have h2 := HE.out hz
      have b1 : (q : Int) < (s.size : Int) := by omega
      have H2 := Lib.hid h2
      clear h2
      go_wp2_with fail
      refine (isword_any _ _).mono ?_
      rintro e w1 ⟨rfl, rfl⟩
      rw [H2.out]
      go_wp2
      go_ret
      exact ⟨rfl, rfl⟩
    · have b1 : ¬ (q : Int) < (s.size : Int) := by omega
      go_wp2
      go_ret
      exact ⟨rfl, rfl⟩
set_option maxHeartbeats 1000000 in
theorem while_note (b : Nat) (s : ByteArray) (a ln at_ : Nat) (w : World) (h : LexAt w b s a ln) (hs : s.size ≤ 140737488355328) (hat : at_ ≤ s.size) :
 Calls Tryz.prog 48 #[.pointer (some ⟨b, 0, none⟩), .int .i64 at_, .func (.func 49) #[] #[]] w fun e w' => e = .returned (.int .i64 ((at_ + ofKind noLine (s.data.toList.drop at_) : Nat) : Int)) ∧ w' = w := by
 have hle := kind_le noLine s at_
 have hrun : ∀ q, at_ ≤ q → q < at_ + ofKind noLine (s.data.toList.drop at_) → ∃ h : q < s.size, noLine s[q] = true := fun q h1 h2 => by
  have := kind_at noLine s at_ (q - at_) (by omega)
  simpa only [show at_ + (q - at_) = q by omega] using this
 have hend : ∀ h : at_ + ofKind noLine (s.data.toList.drop at_) < s.size, noLine s[at_ + ofKind noLine (s.data.toList.drop at_)] = false := fun h => kind_end noLine s at_ h
 have hle2 : at_ + ofKind noLine (s.data.toList.drop at_) ≤ s.size := by omega
 have hge : at_ ≤ at_ + ofKind noLine (s.data.toList.drop at_) := by omega
 clear hle
 generalize at_ + ofKind noLine (s.data.toList.drop at_) = E at *
 have c0 := h.cell 0
 simp at c0
 have HR := Lib.hid hrun
 have HE := Lib.hid hend
 clear hrun hend h
 go_enter Tryz.func48, Tryz.ntmps48
 go_wp2_with fail
 go_loop [1] (fun i => ∃ q : Nat, at_ ≤ q ∧ q ≤ E ∧ i = .int .i64 q) (fun i => E - (intOf i).toNat)
 case atStart => exact ⟨at_, Nat.le_refl _, hge, rfl⟩
 case round =>
  obtain ⟨q, hq, hk, rfl⟩ := hrel
  have i0 : (0 : Int) ≤ (q : Int) := by omega
  by_cases hlt : q < E
  · obtain ⟨h1, h2⟩ := HR.out q hq hlt
    have b1 : (q : Int) < (s.size : Int) := by omega
    have H2 := Lib.hid h2
    clear h2
    go_wp2_with fail
    refine (notline_any _ _).mono ?_
    rintro e w1 ⟨rfl, rfl⟩
    rw [H2.out]
    go_wp2
    go_round
    case rel => exact ⟨q + 1, by omega, by omega, by go_num⟩
    case measure => simp [intOf]; omega
  · obtain rfl : q = E := by omega
    by_cases hz : q < s.size
    · have h2 := HE.out hz
      have b1 : (q : Int) < (s.size : Int) := by omega
      have H2 := Lib.hid h2
      clear h2
      go_wp2_with fail
      refine (notline_any _ _).mono ?_
      rintro e w1 ⟨rfl, rfl⟩
      rw [H2.out]
      go_wp2
      go_ret
      exact ⟨rfl, rfl⟩
    · have b1 : ¬ (q : Int) < (s.size : Int) := by omega
      go_wp2
      go_ret
      exact ⟨rfl, rfl⟩
def ixB (c : UInt8) : Int := Lib.indexByte [9, 13, 32] c
theorem ixB_in {c : UInt8} (h : c.toNat = 9 ∨ c.toNat = 13 ∨ c.toNat = 32) : (0 : Int) ≤ ixB c := by
 rcases h with h | h | h
 · rw [show c = 9 from u8_of h rfl]; decide
 · rw [show c = 13 from u8_of h rfl]; decide
 · rw [show c = 32 from u8_of h rfl]; decide
theorem ixB_out {c : UInt8} (h : c.toNat ≠ 9 ∧ c.toNat ≠ 13 ∧ c.toNat ≠ 32) : ¬ (0 : Int) ≤ ixB c := by
 have key : ∀ n, n < 256 → (n ≠ 9 ∧ n ≠ 13 ∧ n ≠ 32) → ixB (UInt8.ofNat n) = -1 := by decide +kernel
 have := key c.toNat (UInt8.toNat_lt c) h
 rw [UInt8.ofNat_toNat] at this
 rw [this]; decide
theorem ix_any (c : UInt8) (w : World) : Calls Tryz.prog 46 #[.string ⟨#[9, 13, 32]⟩, .int .u8 (c.toNat : Int)] w fun e w' => e = .returned (.int .i64 (ixB c)) ∧ w' = w := by
 have := Tryz.strings_IndexByteB ⟨#[9, 13, 32]⟩ (c.toNat : Int) w
 have e : (c.toNat : Int).toNat.toUInt8 = c := by simp
 rw [e] at this
 exact this
theorem pre_any (s p : ByteArray) (w : World) : Calls Tryz.prog 47 #[.string s, .string p] w fun e w' => e = .returned (.bool (p.data.toList.isPrefixOf s.data.toList)) ∧ w' = w :=
 Tryz.strings_HasPrefixB s p w
theorem ext_tail (s : ByteArray) (a : Nat) : (s.extract a s.size).data.toList = s.data.toList.drop a := by
 rw [extract_from, List.take_of_length_le]
 rw [List.length_drop, size_of]
 exact Nat.le_refl _
theorem remark_end (l : List UInt8) (line : Nat) : skipF true l line = skipF false (l.drop (ofKind noLine l)) line := by
 induction l with
 | nil => rfl
 | cons c r ih =>
  by_cases h : c = 10
  · subst h
    have e : ofKind noLine ((10 : UInt8) :: r) = 0 := by unfold ofKind; rw [List.takeWhile_cons_of_neg (by decide)]; rfl
    rw [e, List.drop_zero]
    unfold skipF
    rw [if_pos rfl, if_neg (fun q => absurd q.1 (by decide)), if_pos rfl]
  · have hn : noLine c = true := by
     unfold noLine
     simp
     intro q
     exact h (u8_of (d := 10) (n := 10) (by omega) rfl)
    have e : ofKind noLine (c :: r) = ofKind noLine r + 1 := by unfold ofKind; rw [List.takeWhile_cons_of_pos hn]; rfl
    rw [e, List.drop_succ_cons, ← ih]
    conv => lhs; unfold skipF
    rw [if_neg h]
theorem skip_l (b : Nat) (s : ByteArray) (a ln : Nat) (w : World) (h : LexAt w b s a ln) (hs : s.size ≤ 140737488355328) (ha : a ≤ s.size) (hl : ln ≤ 281474976710656) :
 Calls Tryz.prog 23 #[.pointer (some ⟨b, 0, none⟩)] w fun e w' => e = .returned (.tuple #[]) ∧ LexAt w' b s (s.size - (skipF false (s.data.toList.drop a) ln).1.length) (skipF false (s.data.toList.drop a) ln).2 ∧ Fr (fun k => k = b) w w' := by
 obtain ⟨T, hT⟩ : ∃ T, skipF false (s.data.toList.drop a) ln = T := ⟨_, rfl⟩
 rw [hT]
 have HT := Lib.hid hT
 have H0 := Lib.hid h
 clear hT h
 go_enter Tryz.func23, Tryz.ntmps23
 go_wp2_with fail
 go_step3
 go_wp2_with fail
 go_step3
 go_wp2_with fail
 go_loopg [] (s.size - a) (fun g wr => ∃ q n : Nat, g = s.size - q ∧ q ≤ s.size ∧ n ≤ ln + q ∧ LexAt wr b s q n ∧ Hid (skipF false (s.data.toList.drop q) n = T) ∧ Fr (fun k => k = b) w wr)
 case atStart => exact ⟨a, ln, rfl, ha, by omega, H0.out, HT, Fr.refl _ _⟩
 case round =>
  obtain ⟨q, n, rfl, hq, hn, g0, HR, e0⟩ := hrel
  clear H0 HT
  have i0 : (0 : Int) ≤ (q : Int) := by omega
  have c0 := g0.cell 0
  have c1 := g0.cell 1
  have c2 := g0.cell 2
  simp at c0 c1 c2
  by_cases hz : q < s.size
  · have i1 : (q : Int) < (s.size : Int) := by omega
    obtain ⟨m, hm⟩ : ∃ m, s[q].toNat = m := ⟨_, rfl⟩
    have HM := Lib.hid hm
    by_cases h10 : m = 10
    · have t1 : ((s[q].toNat : Int) == 10) = true := by rw [hm, h10]; rfl
      have HS := Lib.hid (skip_line s q n hz (by omega))
      clear hm
      go_wp2
      go_quiet (fail)
      obtain ⟨V1, hV1⟩ : ∃ V, V = wr.drewN nq := ⟨_, rfl⟩
      rw [← hV1]
      have g1 : LexAt V1 b s q n := by rw [hV1]; exact Blk.drewN g0 _
      have e1 : Fr (fun k => k = b) w V1 := by rw [hV1]; exact e0.drewN _
      clear hV1 c0 c1 c2 g0 e0 nq
      have c0 := g1.cell 0
      have c1 := g1.cell 1
      have c2 := g1.cell 2
      simp at c0 c1 c2
      go_wp2
      go_quiet (fail)
      obtain ⟨V2, hV2⟩ : ∃ V, V = V1.drewN nq := ⟨_, rfl⟩
      rw [← hV2]
      have g2 : LexAt V2 b s q n := by rw [hV2]; exact Blk.drewN g1 _
      have e2 : Fr (fun k => k = b) w V2 := by rw [hV2]; exact e1.drewN _
      clear hV2 c0 c1 c2 g1 e1 nq
      have c0 := g2.cell 0
      have c1 := g2.cell 1
      have c2 := g2.cell 2
      simp at c0 c1 c2
      have x0 := g2.free 0
      have x1 := g2.free 1
      have x2 := g2.free 2
      have hbl := g2.lt
      go_wp2
      go_roundg (s.size - (q + 1))
      case rel => exact ⟨q + 1, n + 1, rfl, by omega, by omega, by
       unfold LexAt
       (unfold Blk; simp (disch := first | omega | (simp; done) | (simp; omega)) only [hp_drew, hp_drewN, hp_alloc, hp_other, hp_same, hp_new, upd_cells, Option.map_some, (g2).eq])
       simp, Lib.hid (by rw [← HS.out]; exact HR.out), by exact frA⟩
      case measure => omega
    · have t1 : ((s[q].toNat : Int) == 10) = false := by rw [hm]; simp; omega
      by_cases hb : m = 9 ∨ m = 13 ∨ m = 32
      · have t2 : (0 : Int) ≤ ixB s[q] := ixB_in (by rw [hm]; exact hb)
        have t3 : decide ((0 : Int) ≤ ixB s[q]) = true := by simpa using t2
        have HS := Lib.hid (skip_blank s q n hz (by omega))
        clear hm hb
        go_wp2
        go_quiet (fail)
        obtain ⟨V3, hV3⟩ : ∃ V, V = wr.drewN nq := ⟨_, rfl⟩
        rw [← hV3]
        have g3 : LexAt V3 b s q n := by rw [hV3]; exact Blk.drewN g0 _
        have e3 : Fr (fun k => k = b) w V3 := by rw [hV3]; exact e0.drewN _
        clear hV3 c0 c1 c2 g0 e0 nq
        have c0 := g3.cell 0
        have c1 := g3.cell 1
        have c2 := g3.cell 2
        simp at c0 c1 c2
        go_wp2
        go_quiet (fail)
        obtain ⟨V4, hV4⟩ : ∃ V, V = V3.drewN nq := ⟨_, rfl⟩
        rw [← hV4]
        have g4 : LexAt V4 b s q n := by rw [hV4]; exact Blk.drewN g3 _
        have e4 : Fr (fun k => k = b) w V4 := by rw [hV4]; exact e3.drewN _
        clear hV4 c0 c1 c2 g3 e3 nq
        have c0 := g4.cell 0
        have c1 := g4.cell 1
        have c2 := g4.cell 2
        simp at c0 c1 c2
        go_wp2
        (go_quiet ((go_at_call 46; exact Calls.quiet_of_same (ix_any _ _))))
        obtain ⟨V5, hV5⟩ : ∃ V, V = V4.drewN nq := ⟨_, rfl⟩
        rw [← hV5]
        have g5 : LexAt V5 b s q n := by rw [hV5]; exact Blk.drewN g4 _
        have e5 : Fr (fun k => k = b) w V5 := by rw [hV5]; exact e4.drewN _
        clear hV5 c0 c1 c2 g4 e4 nq
        have c0 := g5.cell 0
        have c1 := g5.cell 1
        have c2 := g5.cell 2
        simp at c0 c1 c2
        have x0 := g5.free 0
        have x1 := g5.free 1
        have x2 := g5.free 2
        have hbl := g5.lt
        go_wp2
        go_roundg (s.size - (q + 1))
        case rel => exact ⟨q + 1, n, rfl, by omega, by omega, by
         unfold LexAt
         (unfold Blk; simp (disch := first | omega | (simp; done) | (simp; omega)) only [hp_drew, hp_drewN, hp_alloc, hp_other, hp_same, hp_new, upd_cells, Option.map_some, (g5).eq])
         simp, Lib.hid (by rw [← HS.out]; exact HR.out), by exact frA⟩
        case measure => omega
      · have t2 : ¬ (0 : Int) ≤ ixB s[q] := ixB_out (by rw [hm]; omega)
        have t3 : decide ((0 : Int) ≤ ixB s[q]) = false := by simpa using t2
        have hpre := fun w => pre_any (s.extract q s.size) ⟨#[45, 45]⟩ w
        rw [ext_tail] at hpre
        by_cases hr : m = 45 ∧ ∃ h : q + 1 < s.size, s[q + 1].toNat = 45
        · obtain ⟨hr0, hr1, hr2⟩ := hr
          have hp : (⟨#[45, 45]⟩ : ByteArray).data.toList.isPrefixOf (s.data.toList.drop q) = true := by
           rw [drop_cons s q hz, drop_cons s (q + 1) hr1, show s[q] = 45 from u8_of (by omega : s[q].toNat = 45) rfl, show s[q + 1] = 45 from u8_of hr2 rfl]
           rfl
          rw [hp] at hpre
          have HP := Lib.hid hpre
          have HS : Hid (skipF false (s.data.toList.drop q) n = skipF false (s.data.toList.drop (q + ofKind noLine (s.data.toList.drop q))) n) := Lib.hid (by
           rw [skip_remark s q n hz (by omega) hr1 hr2, remark_end, List.drop_drop])
          have hk1 : 1 ≤ ofKind noLine (s.data.toList.drop q) := by
           rw [drop_cons s q hz]
           unfold ofKind
           rw [List.takeWhile_cons_of_pos (by unfold noLine; simp; omega)]
           simp
          have hk2 := kind_le noLine s q
          obtain ⟨E, hE⟩ : ∃ E, q + ofKind noLine (s.data.toList.drop q) = E := ⟨_, rfl⟩
          rw [hE] at HS
          have hE1 : q + 1 ≤ E := by omega
          have hE2 : E ≤ s.size := by omega
          have hwh := fun w h => while_note b s q n q w h hs hq
          simp only [hE] at hwh
          have HW := Lib.hid hwh
          clear hm hp hpre hE hwh hk1 hk2 hr2 hr0 hb
          go_wp2
          go_quiet (fail)
          obtain ⟨V6, hV6⟩ : ∃ V, V = wr.drewN nq := ⟨_, rfl⟩
          rw [← hV6]
          have g6 : LexAt V6 b s q n := by rw [hV6]; exact Blk.drewN g0 _
          have e6 : Fr (fun k => k = b) w V6 := by rw [hV6]; exact e0.drewN _
          clear hV6 c0 c1 c2 g0 e0 nq
          have c0 := g6.cell 0
          have c1 := g6.cell 1
          have c2 := g6.cell 2
          simp at c0 c1 c2
          go_wp2
          go_quiet (fail)
          obtain ⟨V7, hV7⟩ : ∃ V, V = V6.drewN nq := ⟨_, rfl⟩
          rw [← hV7]
          have g7 : LexAt V7 b s q n := by rw [hV7]; exact Blk.drewN g6 _
          have e7 : Fr (fun k => k = b) w V7 := by rw [hV7]; exact e6.drewN _
          clear hV7 c0 c1 c2 g6 e6 nq
          have c0 := g7.cell 0
          have c1 := g7.cell 1
          have c2 := g7.cell 2
          simp at c0 c1 c2
          go_wp2
          (go_quiet ((go_at_call 46; exact Calls.quiet_of_same (ix_any _ _))))
          obtain ⟨V8, hV8⟩ : ∃ V, V = V7.drewN nq := ⟨_, rfl⟩
          rw [← hV8]
          have g8 : LexAt V8 b s q n := by rw [hV8]; exact Blk.drewN g7 _
          have e8 : Fr (fun k => k = b) w V8 := by rw [hV8]; exact e7.drewN _
          clear hV8 c0 c1 c2 g7 e7 nq
          have c0 := g8.cell 0
          have c1 := g8.cell 1
          have c2 := g8.cell 2
          simp at c0 c1 c2
          go_wp2
          (go_quiet ((go_at_call 47; exact Calls.quiet_of_same (HP.out _))))
          obtain ⟨V9, hV9⟩ : ∃ V, V = V8.drewN nq := ⟨_, rfl⟩
          rw [← hV9]
          have g9 : LexAt V9 b s q n := by rw [hV9]; exact Blk.drewN g8 _
          have e9 : Fr (fun k => k = b) w V9 := by rw [hV9]; exact e8.drewN _
          clear hV9 c0 c1 c2 g8 e8 nq
          have c0 := g9.cell 0
          have c1 := g9.cell 1
          have c2 := g9.cell 2
          simp at c0 c1 c2
          have x0 := g9.free 0
          have x1 := g9.free 1
          have x2 := g9.free 2
          have hbl := g9.lt
          go_wp2_with (go_at_call 48; refine (HW.out _ g9).mono ?_; rintro e w5 ⟨rfl, rfl⟩)
          go_roundg (s.size - (E))
          case rel => exact ⟨E, n, rfl, by omega, by omega, by
           unfold LexAt
           (unfold Blk; simp (disch := first | omega | (simp; done) | (simp; omega)) only [hp_drew, hp_drewN, hp_alloc, hp_other, hp_same, hp_new, upd_cells, Option.map_some, (g9).eq])
           simp, Lib.hid (by rw [← HS.out]; exact HR.out), by exact frA⟩
          case measure => omega
        · have hp : (⟨#[45, 45]⟩ : ByteArray).data.toList.isPrefixOf (s.data.toList.drop q) = false := by
           rw [Bool.eq_false_iff]
           intro hq1
           rw [List.isPrefixOf_iff_prefix, drop_cons s q hz] at hq1
           obtain ⟨tl, htl⟩ := hq1
           have h0 : s[q] = 45 := by
            have := congrArg List.head? htl
            simp at this
            exact this.symm
           have h1 : s.data.toList.drop (q + 1) = 45 :: tl := by
            have := congrArg List.tail htl
            simp at this
            exact this.symm
           rcases Nat.lt_or_ge (q + 1) s.size with z | z
           · rw [drop_cons s (q + 1) z] at h1
             exact hr ⟨by rw [← hm, h0]; rfl, z, by rw [(List.cons.inj h1).1]; rfl⟩
           · rw [drop_end s (q + 1) z] at h1; cases h1
          rw [hp] at hpre
          have HP := Lib.hid hpre
          have HS := Lib.hid (skip_stop s q n hz (by omega) (by
           by_cases z : m = 45
           · rcases Nat.lt_or_ge (q + 1) s.size with y | y
             · exact .inr (.inr ⟨y, fun e => hr ⟨z, y, e⟩⟩)
             · exact .inr (.inl y)
           · exact .inl (by omega)))
          clear hm hp hpre hr hb
          go_wp2
          go_quiet (fail)
          obtain ⟨V10, hV10⟩ : ∃ V, V = wr.drewN nq := ⟨_, rfl⟩
          rw [← hV10]
          have g10 : LexAt V10 b s q n := by rw [hV10]; exact Blk.drewN g0 _
          have e10 : Fr (fun k => k = b) w V10 := by rw [hV10]; exact e0.drewN _
          clear hV10 c0 c1 c2 g0 e0 nq
          have c0 := g10.cell 0
          have c1 := g10.cell 1
          have c2 := g10.cell 2
          simp at c0 c1 c2
          go_wp2
          go_quiet (fail)
          obtain ⟨V11, hV11⟩ : ∃ V, V = V10.drewN nq := ⟨_, rfl⟩
          rw [← hV11]
          have g11 : LexAt V11 b s q n := by rw [hV11]; exact Blk.drewN g10 _
          have e11 : Fr (fun k => k = b) w V11 := by rw [hV11]; exact e10.drewN _
          clear hV11 c0 c1 c2 g10 e10 nq
          have c0 := g11.cell 0
          have c1 := g11.cell 1
          have c2 := g11.cell 2
          simp at c0 c1 c2
          go_wp2
          (go_quiet ((go_at_call 46; exact Calls.quiet_of_same (ix_any _ _))))
          obtain ⟨V12, hV12⟩ : ∃ V, V = V11.drewN nq := ⟨_, rfl⟩
          rw [← hV12]
          have g12 : LexAt V12 b s q n := by rw [hV12]; exact Blk.drewN g11 _
          have e12 : Fr (fun k => k = b) w V12 := by rw [hV12]; exact e11.drewN _
          clear hV12 c0 c1 c2 g11 e11 nq
          have c0 := g12.cell 0
          have c1 := g12.cell 1
          have c2 := g12.cell 2
          simp at c0 c1 c2
          go_wp2
          (go_quiet ((go_at_call 47; exact Calls.quiet_of_same (HP.out _))))
          obtain ⟨V13, hV13⟩ : ∃ V, V = V12.drewN nq := ⟨_, rfl⟩
          rw [← hV13]
          have g13 : LexAt V13 b s q n := by rw [hV13]; exact Blk.drewN g12 _
          have e13 : Fr (fun k => k = b) w V13 := by rw [hV13]; exact e12.drewN _
          clear hV13 c0 c1 c2 g12 e12 nq
          have c0 := g13.cell 0
          have c1 := g13.cell 1
          have c2 := g13.cell 2
          simp at c0 c1 c2
          go_wp2
          rw [Exit.noGoto_normal]
          go_end0
          have hT := HR.out
          rw [HS.out] at hT
          exact ⟨rfl, by rw [← hT]; simpa [List.length_drop, size_of, show s.size - (s.size - q) = q by omega] using g13, e13⟩
  · have HS := Lib.hid (skip_nil s q n (by omega))
    go_wp2
    go_quiet (fail)
    obtain ⟨V14, hV14⟩ : ∃ V, V = wr.drewN nq := ⟨_, rfl⟩
    rw [← hV14]
    have g14 : LexAt V14 b s q n := by rw [hV14]; exact Blk.drewN g0 _
    have e14 : Fr (fun k => k = b) w V14 := by rw [hV14]; exact e0.drewN _
    clear hV14 c0 c1 c2 g0 e0 nq
    have c0 := g14.cell 0
    have c1 := g14.cell 1
    have c2 := g14.cell 2
    simp at c0 c1 c2
    go_wp2
    rw [Exit.noGoto_normal]
    go_end0
    have hT := HR.out
    rw [HS.out] at hT
    exact ⟨rfl, by rw [← hT]; simpa [List.length_drop, size_of, show s.size - (s.size - q) = q by omega] using g14, e14⟩
def wordMap : List (List UInt8 × Int) := [([108, 101, 116], 5), ([105, 110], 5), ([99, 97, 115, 101], 5), ([111, 102], 5), ([100, 97, 116, 97], 5), ([119, 101, 97, 107], 7), ([100, 101, 114, 101, 102], 7), ([115, 101, 113], 7), ([102, 108, 111, 97, 116], 7), ([116, 114, 117, 110, 99], 7)]
def wordM (k : Nat) : List (List UInt8 × Int) := wordMap.take k
theorem zeroInt : (zeroValue 3).run Tryz.prog = fun w => .ok (.int .i64 0) w := by kernel_rfl
theorem ask_kind (s : List UInt8) : (askL (wordM 10) s).getD 0 = if s ∈ wordsL then 5 else if s ∈ backsL then 7 else 0 := by
 by_cases h1 : s ∈ wordsL
 · rw [if_pos h1]
   simp only [wordsL, List.mem_cons, List.not_mem_nil, or_false] at h1
   rcases h1 with h | h | h | h | h <;> (subst h; decide)
 · rw [if_neg h1]
   by_cases h2 : s ∈ backsL
   · rw [if_pos h2]
     clear h1
     simp only [backsL, List.mem_cons, List.not_mem_nil, or_false] at h2
     rcases h2 with h | h | h | h | h <;> (subst h; decide)
   · rw [if_neg h2]
     have hn : (wordM 10).find? (fun p => p.1 == s) = none := by
      rw [List.find?_eq_none]
      intro p hp
      simp only [beq_iff_eq]
      rintro rfl
      have key : ∀ p ∈ wordM 10, p.1 ∈ wordsL ∨ p.1 ∈ backsL := by decide
      rcases key p hp with q | q
      · exact h1 q
      · exact h2 q
     unfold askL
     rw [hn]
     rfl
set_option maxHeartbeats 1000000 in
theorem word_any (s : ByteArray) (w : World) (hs : 0 < s.size) :
 Calls Tryz.prog 53 #[.string s] w fun e w' => e = .returned (.int .i64 (kindF s.data.toList)) ∧ Fr Nil w w' := by
 have m0 : ∀ w : World, (Instr.makeMap 128 none).run Tryz.prog w = .ok (.map (some w.heap.size)) (w.alloc (.map (ents (wordM 0)) 0)) := fun w => run_makeMap_plain w _
 have m1 : (Instr.mapUpdate 128 (.map (some w.heap.size)) (.string ⟨#[108, 101, 116]⟩) (.int .i64 5)).run Tryz.prog (w.alloc (.map (ents (wordM 0)) 0)) = .ok () (w.alloc (.map (ents (wordM 1)) 1)) := run_ins w _ _ _ Tryz.underlying128 Tryz.underlying9 (wordM 0) [108, 101, 116] 5 (by decide) (wordM 1) (by decide) 0 (by decide)
 have m2 : (Instr.mapUpdate 128 (.map (some w.heap.size)) (.string ⟨#[105, 110]⟩) (.int .i64 5)).run Tryz.prog (w.alloc (.map (ents (wordM 1)) 1)) = .ok () (w.alloc (.map (ents (wordM 2)) 2)) := run_ins w _ _ _ Tryz.underlying128 Tryz.underlying9 (wordM 1) [105, 110] 5 (by decide) (wordM 2) (by decide) 1 (by decide)
 have m3 : (Instr.mapUpdate 128 (.map (some w.heap.size)) (.string ⟨#[99, 97, 115, 101]⟩) (.int .i64 5)).run Tryz.prog (w.alloc (.map (ents (wordM 2)) 2)) = .ok () (w.alloc (.map (ents (wordM 3)) 3)) := run_ins w _ _ _ Tryz.underlying128 Tryz.underlying9 (wordM 2) [99, 97, 115, 101] 5 (by decide) (wordM 3) (by decide) 2 (by decide)
 have m4 : (Instr.mapUpdate 128 (.map (some w.heap.size)) (.string ⟨#[111, 102]⟩) (.int .i64 5)).run Tryz.prog (w.alloc (.map (ents (wordM 3)) 3)) = .ok () (w.alloc (.map (ents (wordM 4)) 4)) := run_ins w _ _ _ Tryz.underlying128 Tryz.underlying9 (wordM 3) [111, 102] 5 (by decide) (wordM 4) (by decide) 3 (by decide)
 have m5 : (Instr.mapUpdate 128 (.map (some w.heap.size)) (.string ⟨#[100, 97, 116, 97]⟩) (.int .i64 5)).run Tryz.prog (w.alloc (.map (ents (wordM 4)) 4)) = .ok () (w.alloc (.map (ents (wordM 5)) 5)) := run_ins w _ _ _ Tryz.underlying128 Tryz.underlying9 (wordM 4) [100, 97, 116, 97] 5 (by decide) (wordM 5) (by decide) 4 (by decide)
 have m6 : (Instr.mapUpdate 128 (.map (some w.heap.size)) (.string ⟨#[119, 101, 97, 107]⟩) (.int .i64 7)).run Tryz.prog (w.alloc (.map (ents (wordM 5)) 5)) = .ok () (w.alloc (.map (ents (wordM 6)) 6)) := run_ins w _ _ _ Tryz.underlying128 Tryz.underlying9 (wordM 5) [119, 101, 97, 107] 7 (by decide) (wordM 6) (by decide) 5 (by decide)
 have m7 : (Instr.mapUpdate 128 (.map (some w.heap.size)) (.string ⟨#[100, 101, 114, 101, 102]⟩) (.int .i64 7)).run Tryz.prog (w.alloc (.map (ents (wordM 6)) 6)) = .ok () (w.alloc (.map (ents (wordM 7)) 7)) := run_ins w _ _ _ Tryz.underlying128 Tryz.underlying9 (wordM 6) [100, 101, 114, 101, 102] 7 (by decide) (wordM 7) (by decide) 6 (by decide)
 have m8 : (Instr.mapUpdate 128 (.map (some w.heap.size)) (.string ⟨#[115, 101, 113]⟩) (.int .i64 7)).run Tryz.prog (w.alloc (.map (ents (wordM 7)) 7)) = .ok () (w.alloc (.map (ents (wordM 8)) 8)) := run_ins w _ _ _ Tryz.underlying128 Tryz.underlying9 (wordM 7) [115, 101, 113] 7 (by decide) (wordM 8) (by decide) 7 (by decide)
 have m9 : (Instr.mapUpdate 128 (.map (some w.heap.size)) (.string ⟨#[102, 108, 111, 97, 116]⟩) (.int .i64 7)).run Tryz.prog (w.alloc (.map (ents (wordM 8)) 8)) = .ok () (w.alloc (.map (ents (wordM 9)) 9)) := run_ins w _ _ _ Tryz.underlying128 Tryz.underlying9 (wordM 8) [102, 108, 111, 97, 116] 7 (by decide) (wordM 9) (by decide) 8 (by decide)
 have m10 : (Instr.mapUpdate 128 (.map (some w.heap.size)) (.string ⟨#[116, 114, 117, 110, 99]⟩) (.int .i64 7)).run Tryz.prog (w.alloc (.map (ents (wordM 9)) 9)) = .ok () (w.alloc (.map (ents (wordM 10)) 10)) := run_ins w _ _ _ Tryz.underlying128 Tryz.underlying9 (wordM 9) [116, 114, 117, 110, 99] 7 (by decide) (wordM 10) (by decide) 9 (by decide)
 have mL := run_look w _ _ _ Tryz.underlying128 Tryz.underlying9 zeroInt (wordM 10) 10 s
 rw [ask_kind] at mL
 have i0 : (0 : Int) < (s.size : Int) := by omega
 by_cases h1 : s.data.toList ∈ wordsL
 · have hk : kindF s.data.toList = 5 := by unfold kindF; rw [if_pos h1]
   rw [if_pos h1] at mL
   rw [hk]
   clear h1 hk
   go_enter Tryz.func53, Tryz.ntmps53
   go_wp2
   go_ret
   exact ⟨rfl, by exact frA⟩
 · rw [if_neg h1] at mL
   by_cases h2 : s.data.toList ∈ backsL
   · have hk : kindF s.data.toList = 7 := by unfold kindF; rw [if_neg h1, if_pos h2]
     rw [if_pos h2] at mL
     rw [hk]
     clear h1 h2 hk
     go_enter Tryz.func53, Tryz.ntmps53
     go_wp2
     go_ret
     exact ⟨rfl, by exact frA⟩
   · rw [if_neg h2] at mL
     have hk : kindF s.data.toList = if capC s[0] then 2 else 1 := by
      unfold kindF
      rw [if_neg h1, if_neg h2]
      have e : s.data.toList.head? = some s[0] := by rw [List.head?_eq_getElem?]; exact bytes_at s 0 hs
      rw [e]
      rfl
     rw [hk]
     clear h1 h2 hk
     have hB := capB s[0]
     cases hc : capC s[0]
     · rw [hc] at hB
       have t1 : (decide ((65 : Int) ≤ (s[0].toNat : Int)) && decide ((s[0].toNat : Int) ≤ 90)) = false := hB
       clear hB hc
       go_enter Tryz.func53, Tryz.ntmps53
       go_wp2
       all_goals
        go_ret
        exact ⟨by simp_all, by exact frA⟩
     · rw [hc] at hB
       simp only [Bool.and_eq_true, decide_eq_true_eq] at hB
       obtain ⟨u1, u2⟩ := hB
       clear hc
       go_enter Tryz.func53, Tryz.ntmps53
       go_wp2
       go_ret
       exact ⟨rfl, by exact frA⟩
end Go.Proofs.YtlnmicddobgppaaGreatDoor
