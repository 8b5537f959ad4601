/-
  What is printed is parsed as it was, and the other way round. Plain laws. No conditions.
-/
import Derived.Test.YtomcmelgioamlaaDoorNumParse3
import Derived.Test.YtomcmelgioamlaaDoorRef01p
namespace Go.Proofs.YtomcmelgioamlaaDoor
set_option linter.unusedSimpArgs false
set_option linter.unusedVariables false
open Go.RowKit

theorem dgt_hexd (k : Nat) (h : k < 16) : dgt (hexd k) = k := by
  have key : ∀ k, k < 16 → dgt (hexd k) = k := by decide +kernel
  exact key k h
theorem hexd_dgt (c : UInt8) (h : dgt c ≤ 15) : hexd (dgt c) = c := by
  have key : ∀ n, n < 256 → (dgt (UInt8.ofNat n) ≤ 15 → hexd (dgt (UInt8.ofNat n)) = UInt8.ofNat n) := by decide +kernel
  have h2 := key c.toNat (UInt8.toNat_lt c)
  rw [UInt8.ofNat_toNat] at h2
  exact h2 h
theorem digL_mem (b : Nat) (hb : 2 ≤ b) (hb' : b ≤ 16) (n : Nat) : ∀ c ∈ digL b n, dgt c < b := by
  induction n using Nat.strongRecOn with
  | _ n ih =>
    intro c hc
    by_cases h : n < b
    · rw [digL_lt h] at hc
      simp at hc
      rw [hc, dgt_hexd n (by omega)]
      exact h
    · rw [digL_ge hb (by omega)] at hc
      have hm := Nat.mod_lt n (by omega : 0 < b)
      simp at hc
      rcases hc with hc | rfl
      · exact ih (n / b) (Nat.div_lt_self (by omega) (by omega)) c hc
      · rw [dgt_hexd _ (by omega)]; exact hm
theorem numB_digL (b : Nat) (hb : 2 ≤ b) (hb' : b ≤ 16) (n : Nat) : numB b (digL b n) = n := by
  induction n using Nat.strongRecOn with
  | _ n ih =>
    by_cases h : n < b
    · rw [digL_lt h]
      show 0 * b + dgt (hexd n) = n
      rw [dgt_hexd n (by omega)]; omega
    · rw [digL_ge hb (by omega), numB_snoc, ih (n / b) (Nat.div_lt_self (by omega) (by omega))]
      have hm := Nat.mod_lt n (by omega : 0 < b)
      rw [dgt_hexd _ (by omega), Nat.mul_comm]
      exact Nat.div_add_mod n b
theorem digL_ne (b n : Nat) (hb : 2 ≤ b) : digL b n ≠ [] := by
  by_cases h : n < b
  · rw [digL_lt h]; simp
  · rw [digL_ge hb (by omega)]; simp
theorem digL_head (b : Nat) (hb : 2 ≤ b) (hb' : b ≤ 16) (n : Nat) (hn : 0 < n) : ∃ k, 0 < k ∧ k < b ∧ (digL b n).head? = some (hexd k) := by
  induction n using Nat.strongRecOn with
  | _ n ih =>
    by_cases h : n < b
    · exact ⟨n, hn, h, by rw [digL_lt h]; rfl⟩
    · obtain ⟨k, k0, k1, hk⟩ := ih (n / b) (Nat.div_lt_self (by omega) (by omega)) (Nat.div_pos (by omega) (by omega))
      refine ⟨k, k0, k1, ?_⟩
      rw [digL_ge hb (by omega)]
      cases hd : digL b (n / b) with
      | nil => exact absurd hd (digL_ne b _ hb)
      | cons c l => rw [hd] at hk; exact hk
theorem numB_zeros (b k : Nat) (l : List UInt8) : numB b (List.replicate k 48 ++ l) = numB b l := by
  induction k with
  | zero => rfl
  | succ k ih =>
    rw [List.replicate_succ, List.cons_append]
    have d0 : dgt 48 = 0 := by decide
    unfold numB at *
    rw [List.foldl_cons, d0]
    simpa using ih
/-- Digits are zeros, then those of what they spell. -/
theorem digits_form (b : Nat) (hb : 2 ≤ b) (hb' : b ≤ 16) : ∀ (n : Nat) (R : List UInt8), R.length = n → R ≠ [] → (∀ c ∈ R, dgt c < b) → ∃ z, R = List.replicate z 48 ++ digL b (numB b R) := by
  intro n
  induction n with
  | zero => intro R h hne; exact absurd (List.eq_nil_of_length_eq_zero h) hne
  | succ n ih =>
    intro R hl hne hc
    rcases List.eq_nil_or_concat R with rfl | ⟨L, c, rfl⟩
    · exact absurd rfl hne
    · rw [List.concat_eq_append] at *
      have hcc := hc c (by simp)
      have hx := hexd_dgt c (by omega)
      rw [numB_snoc]
      by_cases hL : L = []
      · subst hL
        refine ⟨0, ?_⟩
        have e0 : numB b [] = 0 := rfl
        rw [e0, Nat.zero_mul, Nat.zero_add, digL_lt hcc, hx]; rfl
      · obtain ⟨z, hz⟩ := ih L (by simpa using hl) hL (fun x hx => hc x (by simp [hx]))
        obtain ⟨V, hV⟩ : ∃ V, numB b L = V := ⟨_, rfl⟩
        rw [hV] at hz ⊢
        by_cases hv : V = 0
        · subst hv
          rw [Nat.zero_mul, Nat.zero_add, digL_lt hcc, hx]
          rw [digL_lt (by omega)] at hz
          have h48 : hexd 0 = 48 := by decide
          refine ⟨z + 1, ?_⟩
          rw [hz, h48, List.replicate_succ']
        · have hge : b ≤ V * b + dgt c := by
            have : 1 * b ≤ V * b := Nat.mul_le_mul_right b (by omega)
            omega
          refine ⟨z, ?_⟩
          rw [digL_ge hb hge]
          have e1 : (V * b + dgt c) / b = V := by
            rw [Nat.add_comm, Nat.add_mul_div_right _ _ (by omega), Nat.div_eq_of_lt hcc, Nat.zero_add]
          have e2 : (V * b + dgt c) % b = dgt c := by
            rw [Nat.add_comm, Nat.add_mul_mod_self_right, Nat.mod_eq_of_lt hcc]
          rw [e1, e2, hx, hz, ← List.append_assoc]
          try rw [numB_zeros, numB_digL b hb hb']
/-- A number's text. -/
def printN (f : Bool) (x : Nat) : List UInt8 := if f then printF x else Lib.itoa (wrap64 (x : Int))
def numRes (f : Bool) (b : Nat) : Value := .tuple #[.agg #[.bool f, .int .u64 (b : Int)], .int .i64 0]
theorem back_flt (x : Nat) (hx : x < 18446744073709551616) : refV (printF x) = numRes true x := by
  have hl := digL_len 16 16 (by omega) x (by omega) (by simpa using hx)
  unfold printF
  rw [← digL16]
  unfold refV
  have ht : ([48, 102] ++ List.replicate (16 - (digL 16 x).length) (48 : UInt8) ++ digL 16 x).take 2 = [48, 102] := rfl
  have hd : ([48, 102] ++ List.replicate (16 - (digL 16 x).length) (48 : UInt8) ++ digL 16 x).drop 2 = List.replicate (16 - (digL 16 x).length) 48 ++ digL 16 x := rfl
  rw [if_pos ht, hd]
  have hB : hexB (List.replicate (16 - (digL 16 x).length) 48 ++ digL 16 x) = true := by
    unfold hexB
    rw [Bool.and_eq_true]
    refine ⟨List.all_eq_true.2 fun c hc => ?_, by simp; omega⟩
    simp at hc
    rcases hc with ⟨_, rfl⟩ | hc
    · decide
    · have := digL_mem 16 (by omega) (by omega) x c hc
      simp; omega
  unfold bitsV
  rw [hB, if_pos rfl, numB_zeros, numB_digL 16 (by omega) (by omega)]
  rfl
theorem decB_digL (n : Nat) : decB (digL 10 n) = true := decB_all fun c hc => by have := digL_mem 10 (by omega) (by omega) n c hc; omega
theorem isEmpty_digL (b n : Nat) (hb : 2 ≤ b) : (digL b n).isEmpty = false := by
  cases h : digL b n with
  | nil => exact absurd h (digL_ne b n hb)
  | cons c l => rfl
theorem head_not48 (n : Nat) (hn : 0 < n) : ((digL 10 n).head? == some 48) = false := by
  obtain ⟨k, k0, k1, hk⟩ := digL_head 10 (by omega) (by omega) n hn
  rw [hk]
  have key : ∀ k, k < 10 → 0 < k → (some (hexd k) == some (48 : UInt8)) = false := by decide +kernel
  exact key k k1 k0
theorem back_int (x : Nat) (hx : x < 18446744073709551616) : refV (Lib.itoa (wrap64 (x : Int))) = numRes false x := by
  by_cases h : x < 9223372036854775808
  · have hw : Lib.itoa (wrap64 (x : Int)) = digL 10 x := by
      rw [show wrap64 (x : Int) = (x : Int) by unfold wrap64; omega, digL10]
      unfold Lib.itoa
      rw [if_neg (by omega)]; rfl
    rw [hw]
    unfold refV
    have hm := digL_mem 10 (by omega) (by omega) x
    rw [if_neg (by
      intro q
      have h2 : (102 : UInt8) ∈ (digL 10 x).take 2 := by rw [q]; simp
      have := hm 102 (List.mem_of_mem_take h2)
      exact absurd this (by decide))]
    rw [if_neg (by
      intro q
      have := hm 45 (List.mem_of_mem_head? q)
      exact absurd this (by decide))]
    have hf : formB (digL 10 x) (digL 10 x) = true := by
      unfold formB
      rw [decB_digL, isEmpty_digL 10 x (by omega)]
      rcases Nat.eq_zero_or_pos x with rfl | hp
      · rw [digL_lt (by omega)]; decide
      · rw [head_not48 x hp]; rfl
    unfold parseV
    rw [hf, if_pos rfl, numB_digL 10 (by omega) (by omega), if_neg (by omega), if_neg (by simp), if_neg (by omega)]
    rfl
  · obtain ⟨y, hy⟩ : ∃ y, 18446744073709551616 - x = y := ⟨_, rfl⟩
    have hw : Lib.itoa (wrap64 (x : Int)) = 45 :: digL 10 y := by
      rw [show wrap64 (x : Int) = -(y : Int) by unfold wrap64; omega, digL10]
      unfold Lib.itoa
      rw [if_pos (by omega), Int.natAbs_neg]; rfl
    rw [hw]
    unfold refV
    rw [if_neg (by intro q; have := congrArg List.head? q; simp at this), if_pos (show (45 :: digL 10 y).head? = some 45 from rfl)]
    have hd : (45 :: digL 10 y).drop 1 = digL 10 y := rfl
    rw [hd]
    have hf : formB (digL 10 y) (45 :: digL 10 y) = true := by
      unfold formB
      rw [decB_digL, isEmpty_digL 10 y (by omega), head_not48 y (by omega)]; rfl
    unfold parseV
    rw [hf, if_pos rfl, numB_digL 10 (by omega) (by omega), if_neg (by omega), if_pos rfl]
    unfold resV numRes
    rw [show (18446744073709551616 - y) % 18446744073709551616 = x by omega]
/-- What is parsed is printed as it was. -/
theorem forth (s : List UInt8) (f : Bool) (b : Nat) (h : refV s = numRes f b) : b < 18446744073709551616 ∧ printN f b = s := by
  have inj : ∀ {f g : Bool} {a c : Nat} {e : Int}, (Value.tuple #[.agg #[.bool f, .int .u64 (a : Int)], .int .i64 e]) = numRes g c → f = g ∧ a = c ∧ e = 0 := by
    intro f g a c e q
    unfold numRes at q
    simp at q
    exact ⟨q.1.1, by omega, q.2⟩
  unfold refV at h
  by_cases h1 : s.take 2 = [48, 102]
  · rw [if_pos h1] at h
    unfold bitsV at h
    cases hx : hexB (s.drop 2) with
    | false =>
      rw [hx, if_neg (by simp)] at h
      have := (inj (a := 0) h).2.2
      omega
    | true =>
      rw [hx, if_pos rfl] at h
      obtain ⟨rfl, hb, _⟩ := inj h
      unfold hexB at hx
      rw [Bool.and_eq_true] at hx
      obtain ⟨R, hR⟩ : ∃ R, s.drop 2 = R := ⟨_, rfl⟩
      rw [hR] at hx hb
      have hl : R.length = 16 := by simpa using hx.2
      have ha : ∀ c ∈ R, dgt c < 16 := fun c hc => by have := List.all_eq_true.1 hx.1 c hc; simp at this; omega
      obtain ⟨z, hz⟩ := digits_form 16 (by omega) (by omega) 16 R hl (by intro q; rw [q] at hl; simp at hl) ha
      rw [hb] at hz
      have hlt := numB_lt 16 R ha
      rw [hb, hl] at hlt
      refine ⟨by simpa using hlt, ?_⟩
      unfold printN printF
      rw [if_pos rfl, ← digL16]
      have hzl : z = 16 - (digL 16 b).length := by
        have := congrArg List.length hz
        simp [hl] at this
        omega
      rw [← hzl, List.append_assoc, ← hz, ← hR, ← h1]
      exact List.take_append_drop 2 s
  · rw [if_neg h1] at h
    have key : ∀ (m : Bool) (d : List UInt8), (m = true → s = 45 :: d) → (m = false → s = d) → parseV m d s = numRes f b → b < 18446744073709551616 ∧ printN f b = s := by
      intro m d hm hm' hp
      unfold parseV at hp
      cases hf : formB d s with
      | false =>
        rw [hf, if_neg (by simp)] at hp
        have := (inj (a := 0) hp).2.2
        omega
      | true =>
        rw [hf, if_pos rfl] at hp
        unfold formB at hf
        rw [Bool.and_eq_true, Bool.and_eq_true] at hf
        obtain ⟨⟨f1, f2⟩, f3⟩ := hf
        have hne : d ≠ [] := by intro q; rw [q] at f2; simp at f2
        have hdd : ∀ c ∈ d, dgt c < 10 := fun c hc => by have := decB_mem f1 c hc; omega
        obtain ⟨z, hz⟩ := digits_form 10 (by omega) (by omega) d.length d rfl hne hdd
        obtain ⟨N, hN⟩ : ∃ N, numB 10 d = N := ⟨_, rfl⟩
        rw [hN] at hz hp
        by_cases hg : 9223372036854775808 < N
        · rw [if_pos hg] at hp
          have := (inj (a := 0) hp).2.2
          omega
        · rw [if_neg hg] at hp
          have hdig : (m = true → 0 < N) ∧ d = Lib.decDigits N := by
            rw [← digL10]
            cases z with
            | succ z =>
              have hh : (d.head? == some 48) = true := by rw [hz, List.replicate_succ]; rfl
              rw [hh] at f3
              have hs : s = [48] := by simpa using f3
              cases m with
              | true => rw [hm rfl] at hs; simp at hs
              | false =>
                have hd48 : d = [48] := by rw [← hm' rfl]; exact hs
                have hN0 : N = 0 := by rw [← hN, hd48]; decide
                exact ⟨(fun q => by cases q), by rw [hd48, hN0, digL_lt (by omega)]; decide⟩
            | zero =>
              have hd2 : d = digL 10 N := by simpa using hz
              refine ⟨fun hmt => ?_, hd2⟩
              rcases Nat.eq_zero_or_pos N with q | q
              · exfalso
                rw [q, digL_lt (by omega)] at hd2
                have h48 : hexd 0 = 48 := by decide
                rw [hd2, hm hmt, h48] at f3
                simp at f3
              · exact q
          obtain ⟨g1, g2⟩ := hdig
          cases m with
          | true =>
            rw [if_pos rfl] at hp
            unfold resV at hp
            obtain ⟨rfl, hb, _⟩ := inj hp
            have hN1 := g1 rfl
            refine ⟨by omega, ?_⟩
            unfold printN
            rw [if_neg (by simp), show wrap64 (b : Int) = -(N : Int) by unfold wrap64; omega]
            unfold Lib.itoa
            rw [if_pos (by omega), Int.natAbs_neg, hm rfl, g2]
            rfl
          | false =>
            rw [if_neg (by simp)] at hp
            by_cases he : N = 9223372036854775808
            · rw [if_pos he] at hp
              have := (inj (a := 0) hp).2.2
              omega
            · rw [if_neg he] at hp
              unfold resV at hp
              obtain ⟨rfl, hb, _⟩ := inj hp
              refine ⟨by omega, ?_⟩
              unfold printN
              rw [if_neg (by simp), show wrap64 (b : Int) = (N : Int) by unfold wrap64; omega]
              unfold Lib.itoa
              rw [if_neg (by omega), hm' rfl, g2]
              rfl
    by_cases h2 : s.head? = some 45
    · rw [if_pos h2] at h
      refine key true _ (fun _ => ?_) (fun q => by cases q) h
      cases hs : s with
      | nil => rw [hs] at h2; simp at h2
      | cons c l => rw [hs] at h2; simp at h2; rw [h2]; rfl
    · rw [if_neg h2] at h
      exact key false s (fun q => by cases q) (fun _ => rfl) h
end Go.Proofs.YtomcmelgioamlaaDoor
