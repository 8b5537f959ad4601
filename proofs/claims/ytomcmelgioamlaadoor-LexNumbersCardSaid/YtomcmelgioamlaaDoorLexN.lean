/-
  What lexF tells of a number's text, alone and between two names. Plain laws: no program. No conditions.
-/
import Derived.Test.YtomcmelgioamlaaDoorLexJ
import Derived.Test.YtomcmelgioamlaaDoorNumBack
namespace Go.Proofs.YtomcmelgioamlaaDoor
set_option linter.unusedSimpArgs false
set_option linter.unusedVariables false
open Go.RowKit

/-- A number's text, as a source has it. -/
def srcN (f : Bool) (x : Nat) : List UInt8 := if (printN f x).head? = some 45 then 35 :: printN f x else printN f x
theorem dgt_word {c : UInt8} (h : dgt c < 16) : wordC c = true := by
  have key : ∀ n : Nat, n < 256 → dgt (UInt8.ofNat n) < 16 → wordC (UInt8.ofNat n) = true := by decide +kernel
  have := key c.toNat c.toNat_lt
  rw [UInt8.ofNat_toNat] at this
  exact this h
theorem dgt_dig {c : UInt8} (h : dgt c < 10) : digC c = true := by
  have key : ∀ n : Nat, n < 256 → dgt (UInt8.ofNat n) < 10 → digC (UInt8.ofNat n) = true := by decide +kernel
  have := key c.toNat c.toNat_lt
  rw [UInt8.ofNat_toNat] at this
  exact this h
theorem printN_f (x : Nat) : printN false x = Lib.itoa (wrap64 (x : Int)) := by unfold printN; rw [if_neg (by simp)]
theorem printN_t (x : Nat) : printN true x = printF x := by unfold printN; rw [if_pos rfl]
theorem numOf_back (f : Bool) (x : Nat) (hx : x < 18446744073709551616) : numOf (printN f x) = (f, x, 0) := by
  refine numOf_of ?_
  cases f
  · rw [printN_f, back_int x hx]; rfl
  · rw [printN_t, back_flt x hx]; rfl
theorem num_shape (f : Bool) (x : Nat) (hx : x < 18446744073709551616) : ShapeT 1 ⟨3, srcN f x, f, x, 1⟩ ∧ ((printN f x).head? = some 45 → f = false) := by
  have hb := numOf_back f x hx
  have plain : ∀ (c : UInt8) (r : List UInt8), printN f x = c :: r → digC c = true → (∀ y ∈ c :: r, wordC y = true) → ShapeT 1 ⟨3, srcN f x, f, x, 1⟩ ∧ ((printN f x).head? = some 45 → f = false) := by
    intro c r e hc hr
    have h45 : ¬ (printN f x).head? = some 45 := by
      rw [e]; intro q; simp at q; subst q; exact absurd hc (by decide)
    have h35 : hashOff (c :: r) = c :: r := by
      unfold hashOff
      rw [if_neg (by intro q; simp at q; subst q; exact absurd hc (by decide))]
    refine ⟨?_, fun q => absurd q h45⟩
    unfold srcN
    rw [if_neg h45]
    rw [e] at hb ⊢
    have hv : numberF (c :: r) 1 = (⟨3, c :: r, f, x, 1⟩, 0) := by
      unfold numberF
      rw [h35, hb]
    have := ShapeT.num (ln := 1) c r hc hr (by rw [hv])
    rw [hv] at this
    exact this
  cases f with
  | true =>
    have e : printN true x = 48 :: (102 :: (List.replicate (16 - (digL 16 x).length) 48 ++ digL 16 x)) := by
      rw [printN_t]
      unfold printF
      rw [← digL16]
      rfl
    refine plain _ _ e (by decide) (fun y hy => ?_)
    rcases List.mem_cons.1 hy with rfl | hy
    · decide
    · rcases List.mem_cons.1 hy with rfl | hy
      · decide
      · rcases List.mem_append.1 hy with q | q
        · rw [List.eq_of_mem_replicate q]; decide
        · exact dgt_word (digL_mem 16 (by omega) (by omega) x y q)
  | false =>
    have e0 := printN_f x
    have hd : ∀ y : Nat, ∃ c r, digL 10 y = c :: r ∧ digC c = true ∧ ∀ z ∈ c :: r, wordC z = true := by
      intro y
      have hm := digL_mem 10 (by omega) (by omega) y
      cases h : digL 10 y with
      | nil => exact absurd h (digL_ne 10 y (by omega))
      | cons c r =>
        rw [h] at hm
        exact ⟨c, r, rfl, dgt_dig (hm c List.mem_cons_self), fun z hz => digit_word (dgt_dig (hm z hz))⟩
    by_cases h : x < 9223372036854775808
    · have hw : Lib.itoa (wrap64 (x : Int)) = digL 10 x := by
        rw [show wrap64 (x : Int) = (x : Int) by unfold wrap64; omega, digL10]
        unfold Lib.itoa
        rw [if_neg (by omega)]; rfl
      obtain ⟨c, r, e, hc, hr⟩ := hd x
      exact plain c r (by rw [e0, hw, e]) hc hr
    · obtain ⟨y, hy⟩ : ∃ y, 18446744073709551616 - x = y := ⟨_, rfl⟩
      have hw : Lib.itoa (wrap64 (x : Int)) = 45 :: digL 10 y := by
        rw [show wrap64 (x : Int) = -(y : Int) by unfold wrap64; omega, digL10]
        unfold Lib.itoa
        rw [if_pos (by omega), Int.natAbs_neg]; rfl
      refine ⟨?_, fun _ => rfl⟩
      obtain ⟨c, r, e, hc, hr⟩ := hd y
      rw [e0, hw, e] at hb
      unfold srcN
      rw [e0, hw, e, if_pos (show (45 :: c :: r).head? = some 45 from rfl)]
      have hv : numberF (35 :: 45 :: c :: r) 1 = (⟨3, 35 :: 45 :: c :: r, false, x, 1⟩, 0) := by
        unfold numberF
        have h35 : hashOff (35 :: 45 :: c :: r) = 45 :: c :: r := rfl
        rw [h35, hb]
      have := ShapeT.minus (ln := 1) (c :: r) (by simp) hr (by rw [hv])
      rw [hv] at this
      exact this
theorem num_stays (f : Bool) (x : Nat) (hx : x < 18446744073709551616) (n : Nat) : skipF false (srcN f x) n = (srcN f x, n) := by
  obtain ⟨h, _⟩ := num_shape f x hx
  have h1 := shape_stays h [] n
  simp only at h1
  obtain ⟨L, hL⟩ : ∃ L, srcN f x = L := ⟨_, rfl⟩
  rw [hL] at h h1 ⊢
  cases L with
  | nil => rfl
  | cons c r =>
    rw [List.cons_append] at h1
    unfold skipF at h1 ⊢
    by_cases q1 : c = 45 ∧ r.head? = some 45
    · rw [if_pos ⟨q1.1, (head_sep 32 (by decide) r []).2 q1.2⟩] at h1
      have := skipF_len true (r ++ [32]) n
      rw [h1] at this
      simp at this
      omega
    · rw [if_neg q1]
      rw [if_neg (fun q => q1 ⟨q.1, (head_sep 32 (by decide) r []).1 q.2⟩)] at h1
      by_cases q2 : c = 10
      · rw [if_pos q2] at h1
        have := congrArg Prod.snd h1
        have h5 := (skipF_line false (r ++ [32]) (n + 1)).1
        simp only at this
        omega
      · rw [if_neg q2] at h1 ⊢
        by_cases q3 : c = 9 ∨ c = 13 ∨ c = 32
        · rw [if_pos q3] at h1
          have := skipF_len false (r ++ [32]) n
          rw [h1] at this
          simp at this
          omega
        · rw [if_neg q3]
theorem lexF_num (f : Bool) (x : Nat) (hx : x < 18446744073709551616) : lexF (srcN f x) = ⟨[⟨3, srcN f x, f, x, 1⟩], 0, 0⟩ := by
  obtain ⟨h, _⟩ := num_shape f x hx
  have h1 := shape_again h 1
  have h2 := num_stays f x hx 1
  generalize srcN f x = L at *
  simp only at h1
  have hne : L ≠ [] := fun q => by rw [q] at h1; simp [oneF] at h1
  unfold lexF
  rw [h2]
  simp only
  rw [lexG_more hne (by rw [h1]) (by simp), h1]
  simp only
  rw [List.drop_length]
  show lexG _ _ [] _ = _
  rw [lexG_end]
  rfl
theorem lexF_between (f : Bool) (x : Nat) (hx : x < 18446744073709551616) : lexF ([97, 32] ++ (srcN f x ++ [32, 98])) = ⟨[⟨1, [97], false, 0, 1⟩, ⟨3, srcN f x, f, x, 1⟩, ⟨1, [98], false, 0, 1⟩], 0, 0⟩ := by
  obtain ⟨h, _⟩ := num_shape f x hx
  have h1 := shape_again h 1
  have h2 := shape_stays h [98] 1
  generalize srcN f x = L at *
  simp only at h1 h2
  have hne : L ≠ [] := fun q => by rw [q] at h1; simp [oneF] at h1
  have ho : oneF (L ++ 32 :: [98]) 1 = (⟨3, L, f, x, 1⟩, 0) := by rw [one_sep 32 (.inr rfl) _ _ _ hne]; exact h1
  have hpos : 0 < L.length := List.length_pos_iff.2 hne
  unfold lexF
  have s0 : skipF false ([97, 32] ++ (L ++ [32, 98])) 1 = ([97, 32] ++ (L ++ [32, 98]), 1) := by
    show skipF false (97 :: 32 :: (L ++ [32, 98])) 1 = _
    unfold skipF
    rw [if_neg (by simp), if_neg (by decide), if_neg (by decide)]
    rfl
  have o0 : oneF ([97, 32] ++ (L ++ [32, 98])) 1 = (⟨1, [97], false, 0, 1⟩, 0) := by
    show oneF ([97] ++ 32 :: (L ++ [32, 98])) 1 = _
    rw [one_sep 32 (.inr rfl) _ _ _ (by simp)]
    decide
  rw [s0]
  simp only
  obtain ⟨k, hk⟩ : ∃ k, ([97, 32] ++ (L ++ [32, 98])).length + 1 = k + 1 + 1 + 1 := ⟨L.length + 2, by simp⟩
  rw [hk, lexG_more (by simp) (by rw [o0]) (by simp), o0]
  simp only
  have d0 : ([97, 32] ++ (L ++ [32, 98])).drop ([97] : List UInt8).length = 32 :: (L ++ 32 :: [98]) := rfl
  have s1 : skipF false (32 :: (L ++ 32 :: [98])) 1 = (L ++ 32 :: [98], 1) := by
    conv => lhs; unfold skipF
    rw [if_neg (by simp), if_neg (by decide), if_pos (.inr (.inr rfl))]
    exact h2
  rw [d0, s1]
  simp only
  rw [lexG_more (by simp) (by rw [ho]) (by simp), ho]
  simp only
  have d1 : (L ++ 32 :: [98]).drop L.length = 32 :: [98] := List.drop_left' rfl
  rw [d1]
  have s2 : skipF false (32 :: [98]) 1 = ([98], 1) := by decide
  have o2 : oneF [98] 1 = (⟨1, [98], false, 0, 1⟩, 0) := by decide
  rw [s2]
  simp only
  rw [lexG_more (by simp) (by rw [o2]) (by simp), o2]
  simp only
  show lexG _ _ (skipF false [] 1).1 _ = _
  show lexG _ _ [] _ = _
  rw [lexG_end]
  rfl
theorem printN_len (f : Bool) (x : Nat) (hx : x < 18446744073709551616) : (printN f x).length ≤ 40 := by
  cases f
  · rw [printN_f]
    obtain ⟨v, hv⟩ : ∃ v, wrap64 (x : Int) = v := ⟨_, rfl⟩
    have hb : -9223372036854775808 ≤ v ∧ v ≤ 9223372036854775807 := by rw [← hv]; unfold wrap64; omega
    rw [hv]
    clear hv
    unfold Lib.itoa
    rw [← digL10, ← digL10]
    have key : ∀ n : Nat, n < 100000000000000000000 → (digL 10 n).length ≤ 20 := fun n h => digL_len 10 20 (by omega) n (by omega) (by simpa using h)
    by_cases h : v < 0
    · rw [if_pos h, List.length_cons]
      have := key v.natAbs (by omega)
      omega
    · rw [if_neg h]
      have := key v.toNat (by omega)
      omega
  · rw [printN_t]
    have := digL_len 16 16 (by omega) x (by omega) (by simpa using hx)
    unfold printF
    rw [← digL16]
    simp
    omega
theorem src_len (f : Bool) (x : Nat) (hx : x < 18446744073709551616) : (srcN f x).length ≤ 41 := by
  have h := printN_len f x hx
  unfold srcN
  split
  · simp; omega
  · omega
end Go.Proofs.YtomcmelgioamlaaDoor
