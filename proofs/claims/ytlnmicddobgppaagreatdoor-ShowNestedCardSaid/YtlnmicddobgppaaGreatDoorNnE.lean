/-
  Contracts of the document's answer for layer 7: the token that stands at a place: words and numbers. No conditions but sizes that memory bears. Contracts of the document's answer for layer 7: the token that stands at a place: numbers, signs. No conditions but sizes that memory bears. Contracts of the document's answer for layer 7: the token that stands at a place: numbers behind '#'. No conditions but sizes that memory bears. Contracts of the document's answer for layer 7: the token that stands at a place; all tokens of a source. No conditions but sizes that memory bears.
-/
import Derived.Deep.DeepCutAuto
import Derived.Lib.SmallJoins
import Derived.Test.YtlnmicddobgppaaGreatDoorNnD
import Derived.Test.YtlnmicddobgppaaGreatDoorNnA
namespace Go.Proofs.YtlnmicddobgppaaGreatDoor
set_option maxRecDepth 100000
set_option linter.unusedSimpArgs false
set_option linter.unusedVariables false
open Go.RowKit
def OneRes (p : TokV × Int) (e : Ending) : Prop := ∃ t : TokV, e = .returned (.tuple #[tokV t, .int .i64 p.2]) ∧ (p.2 = 0 → t = p.1)
theorem OneRes.of {p : TokV × Int} {t : TokV} {e : Int} (h : p = (t, e)) : OneRes p (.returned (.tuple #[tokV t, .int .i64 e])) := by subst h; exact ⟨t, rfl, fun _ => rfl⟩
theorem ext_run (s : ByteArray) (at_ n : Nat) (h : (runF (s.data.toList.drop at_)).length = n) : (s.extract at_ (at_ + n)).data.toList = runF (s.data.toList.drop at_) := by
 rw [extract_from, show at_ + n - at_ = n by omega, ← h]
 exact (List.prefix_iff_eq_take.1 (runF_pre _)).symm
theorem size_of (s : ByteArray) : s.data.toList.length = s.size := by simp
theorem mk_bytes (s : ByteArray) : (⟨s.data.toList.toArray⟩ : ByteArray) = s := bytes_eq _ _ (by simp)
theorem run_pos (s : ByteArray) (a : Nat) (h : a < s.size) (hw : wordC s[a] = true) : 0 < (runF (s.data.toList.drop a)).length := by
 rw [drop_cons s a h]
 simp [runF, List.takeWhile, hw]
theorem tok_ret {k : Int} {s : ByteArray} {f : Bool} {b line : Nat} {e : Int} {l : List UInt8} (h : s.data.toList = l) : Ending.returned (.tuple #[.agg #[.int .i64 k, .string s, .bool f, .int .u64 (b : Int), .int .i64 (line : Int)], .int .i64 e]) = .returned (.tuple #[tokV ⟨k, l, f, b, line⟩, .int .i64 e]) := by
 unfold tokV
 rw [← h, mk_bytes]
section
variable (s : ByteArray) (at_ line : Nat) (w : World) (hs : s.size ≤ 1000000) (hat : at_ < s.size)
include hs hat
set_option maxHeartbeats 1000000 in
theorem one_word (hc : smallC s[at_] = true ∨ (smallC s[at_] = false ∧ capC s[at_] = true)) :
 Calls Tryz.prog 43 #[.string s, .int .i64 at_, .int .i64 line] w fun e w' => OneRes (oneF (s.data.toList.drop at_) line) e ∧ Fr Nil w w' := by
 have hone : oneF (s.data.toList.drop at_) line = (⟨kindF (runF (s.data.toList.drop at_)), runF (s.data.toList.drop at_), false, 0, line⟩, if 16 < (runF (s.data.toList.drop at_)).length then 9 else 0) := by
  rw [drop_cons s at_ hat]
  unfold oneF
  simp only
  rw [if_pos (by rcases hc with q | ⟨_, q⟩ <;> simp [q])]
 have hp := run_pos s at_ hat (by unfold wordC; rcases hc with q | ⟨_, q⟩ <;> simp [q])
 have hle := run_le s at_
 obtain ⟨N, hN⟩ : ∃ N, (runF (s.data.toList.drop at_)).length = N := ⟨_, rfl⟩
 have hext := ext_run s at_ N hN
 have hrun := fun w => run_any s at_ w hs (by omega)
 rw [hN] at hp hle hone
 simp only [hN] at hrun
 obtain ⟨X, hX⟩ : ∃ X, s.extract at_ (at_ + N) = X := ⟨_, rfl⟩
 have hXs : X.size = N := by rw [← hX]; simp; omega
 rw [hX] at hext
 rw [hone]
 have i0 : (0 : Int) ≤ (at_ : Int) := by omega
 have i1 : (at_ : Int) < (s.size : Int) := by omega
 have i2 : (at_ : Int) + (N : Int) ≤ (s.size : Int) := by omega
 have HXS := Lib.hid hXs
 have HE := Lib.hid hext
 have HRUN := Lib.hid hrun
 clear hone hN hXs hext hrun
 by_cases h16 : 16 < N
 · have j1 : decide ((16 : Int) < (X.size : Int)) = true := by rw [HXS.out]; simp; omega
   have j2 : (16 : Int) < (X.size : Int) := by rw [HXS.out]; omega
   rw [if_pos h16]
   rcases hc with q | ⟨q0, q⟩
   all_goals
    go_enter Tryz.func43, Tryz.ntmps43
    go_wp2_with (first
     | (go_at_call 77; refine (small_any _ _).mono ?_; rintro e w1 ⟨rfl, rfl⟩)
     | (go_at_call 78; refine (cap_any _ _).mono ?_; rintro e w1 ⟨rfl, rfl⟩)
     | (go_at_call 79; refine (HRUN.out _).mono ?_; rintro e w1 ⟨rfl, rfl⟩)
     | (go_at_call 80; refine (kind_any X _ (by rw [HXS.out]; exact hp)).mono ?_; rintro e w1 ⟨rfl, rfl⟩))
    refine bodyPost_ret (v := .tuple #[.agg #[.int .i64 (kindF X.data.toList), .string X, .bool false, .int .u64 ((0 : Nat) : Int), .int .i64 (line : Int)], .int .i64 9]) (by simp [results, Tryz.results43, go_sem, *]) rfl ⟨?_, ?_⟩
    · rw [tok_ret HE.out, HE.out]
      exact OneRes.of rfl
    · exact frA
 · have j1 : decide ((16 : Int) < (X.size : Int)) = false := by rw [HXS.out]; simp; omega
   have j2 : ¬ (16 : Int) < (X.size : Int) := by rw [HXS.out]; omega
   rw [if_neg h16]
   rcases hc with q | ⟨q0, q⟩
   all_goals
    go_enter Tryz.func43, Tryz.ntmps43
    go_wp2_with (first
     | (go_at_call 77; refine (small_any _ _).mono ?_; rintro e w1 ⟨rfl, rfl⟩)
     | (go_at_call 78; refine (cap_any _ _).mono ?_; rintro e w1 ⟨rfl, rfl⟩)
     | (go_at_call 79; refine (HRUN.out _).mono ?_; rintro e w1 ⟨rfl, rfl⟩)
     | (go_at_call 80; refine (kind_any X _ (by rw [HXS.out]; exact hp)).mono ?_; rintro e w1 ⟨rfl, rfl⟩))
    refine bodyPost_ret (v := .tuple #[.agg #[.int .i64 (kindF X.data.toList), .string X, .bool false, .int .u64 ((0 : Nat) : Int), .int .i64 (line : Int)], .int .i64 0]) (by simp [results, Tryz.results43, go_sem, *]) rfl ⟨?_, ?_⟩
    · rw [tok_ret HE.out, HE.out]
      exact OneRes.of rfl
    · exact frA
end
theorem tokV_mk (t : TokV) : tokV t = .agg #[.int .i64 t.kind, .string ⟨t.text.toArray⟩, .bool t.flt, .int .u64 (t.bits : Int), .int .i64 (t.line : Int)] := rfl
section
variable (s : ByteArray) (at_ line : Nat) (w : World) (hs : s.size ≤ 1000000) (hat : at_ < s.size)
include hs hat
set_option maxHeartbeats 1000000 in
theorem one_digit (h1 : smallC s[at_] = false) (h2 : capC s[at_] = false) (h3 : digC s[at_] = true) :
 Calls Tryz.prog 43 #[.string s, .int .i64 at_, .int .i64 line] w fun e w' => OneRes (oneF (s.data.toList.drop at_) line) e ∧ Fr Nil w w' := by
 have hone : oneF (s.data.toList.drop at_) line = numberF (runF (s.data.toList.drop at_)) line := by
  rw [drop_cons s at_ hat]
  unfold oneF
  simp only
  rw [if_neg (by simp [h1, h2]), if_pos h3]
 have hp := run_pos s at_ hat (by unfold wordC; simp [h3])
 have hle := run_le s at_
 obtain ⟨N, hN⟩ : ∃ N, (runF (s.data.toList.drop at_)).length = N := ⟨_, rfl⟩
 have hext := ext_run s at_ N hN
 have hrun := fun w => run_any s at_ w hs (by omega)
 rw [hN] at hp hle
 simp only [hN] at hrun
 obtain ⟨X, hX⟩ : ∃ X, s.extract at_ (at_ + N) = X := ⟨_, rfl⟩
 have hXs : X.size = N := by rw [← hX]; simp; omega
 rw [hX] at hext
 rw [hone, ← hext]
 obtain ⟨t, e, ht⟩ : ∃ t e, numberF X.data.toList line = (t, e) := ⟨_, _, rfl⟩
 have hnum := fun kd f0 b0 w => rnumber_any kd f0 b0 line X w (by omega) (by omega)
 rw [ht]
 simp only [ht, tokV_mk] at hnum
 have i0 : (0 : Int) ≤ (at_ : Int) := by omega
 have i1 : (at_ : Int) < (s.size : Int) := by omega
 have i2 : (at_ : Int) + (N : Int) ≤ (s.size : Int) := by omega
 have HRUN := Lib.hid hrun
 have HNUM := Lib.hid hnum
 clear hone hN hXs hext hrun hnum ht
 go_enter Tryz.func43, Tryz.ntmps43
 go_wp2_with (first
  | (go_at_call 77; refine (small_any _ _).mono ?_; rintro e w1 ⟨rfl, rfl⟩)
  | (go_at_call 78; refine (cap_any _ _).mono ?_; rintro e w1 ⟨rfl, rfl⟩)
  | (go_at_call 81; refine (dig_any _ _).mono ?_; rintro e w1 ⟨rfl, rfl⟩)
  | (go_at_call 79; refine (HRUN.out _).mono ?_; rintro e w1 ⟨rfl, rfl⟩)
  | (go_at_call 82; refine (HNUM.out _ _ _ _).mono ?_; rintro e1 w2 ⟨rfl, f2⟩; obtain ⟨_, _, _⟩ := f2.at (w.heap.size) (by first | assumption | omega | (simp; done) | (simp; omega)); obtain ⟨_, _, _⟩ := f2.at (w.heap.size + 1) (by first | assumption | omega | (simp; done) | (simp; omega))))
 refine bodyPost_ret (v := .tuple #[tokV t, .int .i64 e]) (by simp [tokV_mk, results, Tryz.results43, go_sem, *]) rfl ⟨OneRes.of rfl, ?_⟩
 exact frA
end
theorem ext_hash (s : ByteArray) (at_ n N : Nat) (hN : (runF (s.data.toList.drop (at_ + n))).length = N) : (s.extract at_ (at_ + n + N)).data.toList = (s.data.toList.drop at_).take n ++ runF (s.data.toList.drop (at_ + n)) := by
 rw [extract_from, show at_ + n + N - at_ = n + N by omega, List.take_add, List.drop_drop]
 congr 1
 rw [← hN]
 exact (List.prefix_iff_eq_take.1 (runF_pre _)).symm
section
variable (s : ByteArray) (at_ line : Nat) (w : World) (hs : s.size ≤ 1000000) (hat : at_ < s.size)
include hs hat
set_option maxHeartbeats 1000000 in
theorem one_hash1_no (hc : s[at_].toNat = 35) (hm : s.size ≤ at_ + 1 ∨ ∃ h : at_ + 1 < s.size, s[at_ + 1].toNat ≠ 45) (hr : runF (s.data.toList.drop (at_ + 1)) = []) :
 Calls Tryz.prog 43 #[.string s, .int .i64 at_, .int .i64 line] w fun e w' => OneRes (oneF (s.data.toList.drop at_) line) e ∧ Fr Nil w w' := by
 have hu : s[at_] = 35 := u8_of hc rfl
 have q1 : smallC s[at_] = false := by rw [hu]; decide
 have q2 : capC s[at_] = false := by rw [hu]; decide
 have q3 : digC s[at_] = false := by rw [hu]; decide
 have q4 : ((s[at_].toNat : Int) == 35) = true := by rw [hc]; rfl
 have hh : ¬ (s.data.toList.drop (at_ + 1)).head? = some 45 := by
  rcases hm with hm | ⟨h1, hm⟩
  · rw [drop_end s _ hm]; simp
  · rw [drop_cons s _ h1]
    simp
    exact fun e => hm (by rw [e]; rfl)
 have k1 : decide ((at_ : Int) + 1 < (s.size : Int)) = false ∨ ∃ h : at_ + 1 < s.size, ((s[at_ + 1].toNat : Int) == 45) = false := by
  rcases hm with hm | ⟨h1, hm⟩
  · exact .inl (by simp; omega)
  · exact .inr ⟨h1, by simp; omega⟩
 have hrun : ∀ w, Calls Tryz.prog 79 #[.string s, .int .i64 ((at_ : Int) + 1)] w fun e w' => e = .returned (.int .i64 (runF (s.data.toList.drop (at_ + 1))).length) ∧ w = w' := fun w => by
  have := run_any s (at_ + 1) w hs (by omega)
  rwa [show ((at_ + 1 : Nat) : Int) = (at_ : Int) + 1 by omega] at this
 have hle := run_le s (at_ + 1)
 obtain ⟨N, hN⟩ : ∃ N, (runF (s.data.toList.drop (at_ + 1))).length = N := ⟨_, rfl⟩
 have hext := ext_hash s at_ 1 N hN
 simp only [hN] at hrun
 rw [hN] at hle
 have i0 : (0 : Int) ≤ (at_ : Int) := by omega
 have i1 : (at_ : Int) < (s.size : Int) := by omega
 have hone : oneF (s.data.toList.drop at_) line = (none_ line, 3) := by
  rw [drop_cons s at_ hat]
  unfold oneF
  simp only
  rw [if_neg (by simp [q1, q2]), if_neg (by simp [q3]), if_pos hu]
  rw [if_neg hh]
  rw [if_pos hr]
 rw [hone]
 rw [hr] at hN
 obtain rfl : N = 0 := by simpa using hN.symm
 have HRUN := Lib.hid hrun
 clear hone hrun hext hr hN hu hc hm hh
 rcases k1 with k1 | ⟨k0, k1⟩
 · go_enter Tryz.func43, Tryz.ntmps43
   go_wp2_with (first
    | (go_at_call 77; refine (small_any _ _).mono ?_; rintro e w1 ⟨rfl, rfl⟩)
    | (go_at_call 78; refine (cap_any _ _).mono ?_; rintro e w1 ⟨rfl, rfl⟩)
    | (go_at_call 81; refine (dig_any _ _).mono ?_; rintro e w1 ⟨rfl, rfl⟩)
    | (go_at_call 79; refine (HRUN.out _).mono ?_; rintro e w1 ⟨rfl, rfl⟩))
   refine bodyPost_ret (v := .tuple #[tokV (none_ line), .int .i64 3]) (by simp [tokV_mk, none_, results, Tryz.results43, go_sem, *] <;> rfl) rfl ⟨OneRes.of rfl, ?_⟩
   exact frA
 · have k2 : (at_ : Int) + 1 < (s.size : Int) := by omega
   go_enter Tryz.func43, Tryz.ntmps43
   go_wp2_with (first
    | (go_at_call 77; refine (small_any _ _).mono ?_; rintro e w1 ⟨rfl, rfl⟩)
    | (go_at_call 78; refine (cap_any _ _).mono ?_; rintro e w1 ⟨rfl, rfl⟩)
    | (go_at_call 81; refine (dig_any _ _).mono ?_; rintro e w1 ⟨rfl, rfl⟩)
    | (go_at_call 79; refine (HRUN.out _).mono ?_; rintro e w1 ⟨rfl, rfl⟩))
   refine bodyPost_ret (v := .tuple #[tokV (none_ line), .int .i64 3]) (by simp [tokV_mk, none_, results, Tryz.results43, go_sem, *] <;> rfl) rfl ⟨OneRes.of rfl, ?_⟩
   exact frA
set_option maxHeartbeats 1000000 in
theorem one_hash1_some (hc : s[at_].toNat = 35) (hm : s.size ≤ at_ + 1 ∨ ∃ h : at_ + 1 < s.size, s[at_ + 1].toNat ≠ 45) (hr : runF (s.data.toList.drop (at_ + 1)) ≠ []) :
 Calls Tryz.prog 43 #[.string s, .int .i64 at_, .int .i64 line] w fun e w' => OneRes (oneF (s.data.toList.drop at_) line) e ∧ Fr Nil w w' := by
 have hu : s[at_] = 35 := u8_of hc rfl
 have q1 : smallC s[at_] = false := by rw [hu]; decide
 have q2 : capC s[at_] = false := by rw [hu]; decide
 have q3 : digC s[at_] = false := by rw [hu]; decide
 have q4 : ((s[at_].toNat : Int) == 35) = true := by rw [hc]; rfl
 have hh : ¬ (s.data.toList.drop (at_ + 1)).head? = some 45 := by
  rcases hm with hm | ⟨h1, hm⟩
  · rw [drop_end s _ hm]; simp
  · rw [drop_cons s _ h1]
    simp
    exact fun e => hm (by rw [e]; rfl)
 have k1 : decide ((at_ : Int) + 1 < (s.size : Int)) = false ∨ ∃ h : at_ + 1 < s.size, ((s[at_ + 1].toNat : Int) == 45) = false := by
  rcases hm with hm | ⟨h1, hm⟩
  · exact .inl (by simp; omega)
  · exact .inr ⟨h1, by simp; omega⟩
 have hrun : ∀ w, Calls Tryz.prog 79 #[.string s, .int .i64 ((at_ : Int) + 1)] w fun e w' => e = .returned (.int .i64 (runF (s.data.toList.drop (at_ + 1))).length) ∧ w = w' := fun w => by
  have := run_any s (at_ + 1) w hs (by omega)
  rwa [show ((at_ + 1 : Nat) : Int) = (at_ : Int) + 1 by omega] at this
 have hle := run_le s (at_ + 1)
 obtain ⟨N, hN⟩ : ∃ N, (runF (s.data.toList.drop (at_ + 1))).length = N := ⟨_, rfl⟩
 have hext := ext_hash s at_ 1 N hN
 simp only [hN] at hrun
 rw [hN] at hle
 have i0 : (0 : Int) ≤ (at_ : Int) := by omega
 have i1 : (at_ : Int) < (s.size : Int) := by omega
 have hone : oneF (s.data.toList.drop at_) line = numberF (35 :: runF (s.data.toList.drop (at_ + 1))) line := by
  rw [drop_cons s at_ hat]
  unfold oneF
  simp only
  rw [if_neg (by simp [q1, q2]), if_neg (by simp [q3]), if_pos hu]
  rw [if_neg hh]
  rw [if_neg hr]
 have hp : 0 < N := by rw [← hN]; exact List.length_pos_iff.2 hr
 obtain ⟨X, hX⟩ : ∃ X, s.extract at_ (at_ + 1 + N) = X := ⟨_, rfl⟩
 have hXs : X.size = 1 + N := by rw [← hX]; simp; omega
 rw [hX] at hext
 have htx : (s.data.toList.drop at_).take 1 = [35] := by
  rw [drop_cons s at_ hat, hu]
  rfl
 rw [htx] at hext
 rw [hone, show 35 :: runF (s.data.toList.drop (at_ + 1)) = X.data.toList from hext.symm]
 obtain ⟨t, e, ht⟩ : ∃ t e, numberF X.data.toList line = (t, e) := ⟨_, _, rfl⟩
 have hnum := fun kd f0 b0 w => rnumber_any kd f0 b0 line X w (by omega) (by omega)
 rw [ht]
 simp only [ht, tokV_mk] at hnum
 have hN0 : ((N : Int) == 0) = false := by simp; omega
 have i3 : (at_ : Int) + 1 + (N : Int) ≤ (s.size : Int) := by omega
 have HRUN := Lib.hid hrun
 have HNUM := Lib.hid hnum
 clear hone hrun hext hr hN hu hc hm hh hnum ht htx hXs
 rcases k1 with k1 | ⟨k0, k1⟩
 · go_enter Tryz.func43, Tryz.ntmps43
   go_wp2_with (first
    | (go_at_call 77; refine (small_any _ _).mono ?_; rintro e w1 ⟨rfl, rfl⟩)
    | (go_at_call 78; refine (cap_any _ _).mono ?_; rintro e w1 ⟨rfl, rfl⟩)
    | (go_at_call 81; refine (dig_any _ _).mono ?_; rintro e w1 ⟨rfl, rfl⟩)
    | (go_at_call 79; refine (HRUN.out _).mono ?_; rintro e w1 ⟨rfl, rfl⟩)
    | (go_at_call 82; refine (HNUM.out _ _ _ _).mono ?_; rintro e1 w2 ⟨rfl, f2⟩; obtain ⟨_, _, _⟩ := f2.at (w.heap.size) (by first | assumption | omega | (simp; done) | (simp; omega)); obtain ⟨_, _, _⟩ := f2.at (w.heap.size + 1) (by first | assumption | omega | (simp; done) | (simp; omega))))
   refine bodyPost_ret (v := .tuple #[tokV t, .int .i64 e]) (by simp [tokV_mk, results, Tryz.results43, go_sem, *]) rfl ⟨OneRes.of rfl, ?_⟩
   exact frA
 · have k2 : (at_ : Int) + 1 < (s.size : Int) := by omega
   go_enter Tryz.func43, Tryz.ntmps43
   go_wp2_with (first
    | (go_at_call 77; refine (small_any _ _).mono ?_; rintro e w1 ⟨rfl, rfl⟩)
    | (go_at_call 78; refine (cap_any _ _).mono ?_; rintro e w1 ⟨rfl, rfl⟩)
    | (go_at_call 81; refine (dig_any _ _).mono ?_; rintro e w1 ⟨rfl, rfl⟩)
    | (go_at_call 79; refine (HRUN.out _).mono ?_; rintro e w1 ⟨rfl, rfl⟩)
    | (go_at_call 82; refine (HNUM.out _ _ _ _).mono ?_; rintro e1 w2 ⟨rfl, f2⟩; obtain ⟨_, _, _⟩ := f2.at (w.heap.size) (by first | assumption | omega | (simp; done) | (simp; omega)); obtain ⟨_, _, _⟩ := f2.at (w.heap.size + 1) (by first | assumption | omega | (simp; done) | (simp; omega))))
   refine bodyPost_ret (v := .tuple #[tokV t, .int .i64 e]) (by simp [tokV_mk, results, Tryz.results43, go_sem, *]) rfl ⟨OneRes.of rfl, ?_⟩
   exact frA
set_option maxHeartbeats 1000000 in
theorem one_hash2_no (hc : s[at_].toNat = 35) (hz : at_ + 1 < s.size) (hm : s[at_ + 1].toNat = 45) (hr : runF (s.data.toList.drop (at_ + 2)) = []) :
 Calls Tryz.prog 43 #[.string s, .int .i64 at_, .int .i64 line] w fun e w' => OneRes (oneF (s.data.toList.drop at_) line) e ∧ Fr Nil w w' := by
 have hu : s[at_] = 35 := u8_of hc rfl
 have q1 : smallC s[at_] = false := by rw [hu]; decide
 have q2 : capC s[at_] = false := by rw [hu]; decide
 have q3 : digC s[at_] = false := by rw [hu]; decide
 have q4 : ((s[at_].toNat : Int) == 35) = true := by rw [hc]; rfl
 have hh : (s.data.toList.drop (at_ + 1)).head? = some 45 := by
  rw [drop_cons s _ hz]
  exact congrArg some (u8_of (d := 45) hm rfl)
 have k1 : ((s[at_ + 1].toNat : Int) == 45) = true := by rw [hm]; rfl
 have k2 : (at_ : Int) + 1 < (s.size : Int) := by omega
 have hrun : ∀ w, Calls Tryz.prog 79 #[.string s, .int .i64 ((at_ : Int) + 2)] w fun e w' => e = .returned (.int .i64 (runF (s.data.toList.drop (at_ + 2))).length) ∧ w = w' := fun w => by
  have := run_any s (at_ + 2) w hs (by omega)
  rwa [show ((at_ + 2 : Nat) : Int) = (at_ : Int) + 2 by omega] at this
 have hle := run_le s (at_ + 2)
 obtain ⟨N, hN⟩ : ∃ N, (runF (s.data.toList.drop (at_ + 2))).length = N := ⟨_, rfl⟩
 have hext := ext_hash s at_ 2 N hN
 simp only [hN] at hrun
 rw [hN] at hle
 have i0 : (0 : Int) ≤ (at_ : Int) := by omega
 have i1 : (at_ : Int) < (s.size : Int) := by omega
 have hone : oneF (s.data.toList.drop at_) line = (none_ line, 3) := by
  rw [drop_cons s at_ hat]
  unfold oneF
  simp only
  rw [if_neg (by simp [q1, q2]), if_neg (by simp [q3]), if_pos hu]
  rw [if_pos hh]
  rw [show (List.drop 1 (s.data.toList.drop (at_ + 1))) = s.data.toList.drop (at_ + 2) by rw [List.drop_drop], if_pos hr]
 rw [hone]
 rw [hr] at hN
 obtain rfl : N = 0 := by simpa using hN.symm
 have HRUN := Lib.hid hrun
 clear hone hrun hext hr hN hu hc hm hh
 go_enter Tryz.func43, Tryz.ntmps43
 go_wp2_with (first
  | (go_at_call 77; refine (small_any _ _).mono ?_; rintro e w1 ⟨rfl, rfl⟩)
  | (go_at_call 78; refine (cap_any _ _).mono ?_; rintro e w1 ⟨rfl, rfl⟩)
  | (go_at_call 81; refine (dig_any _ _).mono ?_; rintro e w1 ⟨rfl, rfl⟩)
  | (go_at_call 79; refine (HRUN.out _).mono ?_; rintro e w1 ⟨rfl, rfl⟩))
 refine bodyPost_ret (v := .tuple #[tokV (none_ line), .int .i64 3]) (by simp [tokV_mk, none_, results, Tryz.results43, go_sem, *] <;> rfl) rfl ⟨OneRes.of rfl, ?_⟩
 exact frA
set_option maxHeartbeats 1000000 in
theorem one_hash2_some (hc : s[at_].toNat = 35) (hz : at_ + 1 < s.size) (hm : s[at_ + 1].toNat = 45) (hr : runF (s.data.toList.drop (at_ + 2)) ≠ []) :
 Calls Tryz.prog 43 #[.string s, .int .i64 at_, .int .i64 line] w fun e w' => OneRes (oneF (s.data.toList.drop at_) line) e ∧ Fr Nil w w' := by
 have hu : s[at_] = 35 := u8_of hc rfl
 have q1 : smallC s[at_] = false := by rw [hu]; decide
 have q2 : capC s[at_] = false := by rw [hu]; decide
 have q3 : digC s[at_] = false := by rw [hu]; decide
 have q4 : ((s[at_].toNat : Int) == 35) = true := by rw [hc]; rfl
 have hh : (s.data.toList.drop (at_ + 1)).head? = some 45 := by
  rw [drop_cons s _ hz]
  exact congrArg some (u8_of (d := 45) hm rfl)
 have k1 : ((s[at_ + 1].toNat : Int) == 45) = true := by rw [hm]; rfl
 have k2 : (at_ : Int) + 1 < (s.size : Int) := by omega
 have hrun : ∀ w, Calls Tryz.prog 79 #[.string s, .int .i64 ((at_ : Int) + 2)] w fun e w' => e = .returned (.int .i64 (runF (s.data.toList.drop (at_ + 2))).length) ∧ w = w' := fun w => by
  have := run_any s (at_ + 2) w hs (by omega)
  rwa [show ((at_ + 2 : Nat) : Int) = (at_ : Int) + 2 by omega] at this
 have hle := run_le s (at_ + 2)
 obtain ⟨N, hN⟩ : ∃ N, (runF (s.data.toList.drop (at_ + 2))).length = N := ⟨_, rfl⟩
 have hext := ext_hash s at_ 2 N hN
 simp only [hN] at hrun
 rw [hN] at hle
 have i0 : (0 : Int) ≤ (at_ : Int) := by omega
 have i1 : (at_ : Int) < (s.size : Int) := by omega
 have hone : oneF (s.data.toList.drop at_) line = numberF (35 :: 45 :: runF (s.data.toList.drop (at_ + 2))) line := by
  rw [drop_cons s at_ hat]
  unfold oneF
  simp only
  rw [if_neg (by simp [q1, q2]), if_neg (by simp [q3]), if_pos hu]
  rw [if_pos hh]
  rw [show (List.drop 1 (s.data.toList.drop (at_ + 1))) = s.data.toList.drop (at_ + 2) by rw [List.drop_drop], if_neg hr]
 have hp : 0 < N := by rw [← hN]; exact List.length_pos_iff.2 hr
 obtain ⟨X, hX⟩ : ∃ X, s.extract at_ (at_ + 2 + N) = X := ⟨_, rfl⟩
 have hXs : X.size = 2 + N := by rw [← hX]; simp; omega
 rw [hX] at hext
 have htx : (s.data.toList.drop at_).take 2 = [35, 45] := by
  rw [drop_cons s at_ hat, hu]
  rw [List.take_succ_cons, drop_cons s (at_ + 1) hz, show s[at_ + 1] = 45 from u8_of hm rfl]; rfl
 rw [htx] at hext
 rw [hone, show 35 :: 45 :: runF (s.data.toList.drop (at_ + 2)) = X.data.toList from hext.symm]
 obtain ⟨t, e, ht⟩ : ∃ t e, numberF X.data.toList line = (t, e) := ⟨_, _, rfl⟩
 have hnum := fun kd f0 b0 w => rnumber_any kd f0 b0 line X w (by omega) (by omega)
 rw [ht]
 simp only [ht, tokV_mk] at hnum
 have hN0 : ((N : Int) == 0) = false := by simp; omega
 have i3 : (at_ : Int) + 2 + (N : Int) ≤ (s.size : Int) := by omega
 have HRUN := Lib.hid hrun
 have HNUM := Lib.hid hnum
 clear hone hrun hext hr hN hu hc hm hh hnum ht htx hXs
 go_enter Tryz.func43, Tryz.ntmps43
 go_wp2_with (first
  | (go_at_call 77; refine (small_any _ _).mono ?_; rintro e w1 ⟨rfl, rfl⟩)
  | (go_at_call 78; refine (cap_any _ _).mono ?_; rintro e w1 ⟨rfl, rfl⟩)
  | (go_at_call 81; refine (dig_any _ _).mono ?_; rintro e w1 ⟨rfl, rfl⟩)
  | (go_at_call 79; refine (HRUN.out _).mono ?_; rintro e w1 ⟨rfl, rfl⟩)
  | (go_at_call 82; refine (HNUM.out _ _ _ _).mono ?_; rintro e1 w2 ⟨rfl, f2⟩; obtain ⟨_, _, _⟩ := f2.at (w.heap.size) (by first | assumption | omega | (simp; done) | (simp; omega)); obtain ⟨_, _, _⟩ := f2.at (w.heap.size + 1) (by first | assumption | omega | (simp; done) | (simp; omega))))
 refine bodyPost_ret (v := .tuple #[tokV t, .int .i64 e]) (by simp [tokV_mk, results, Tryz.results43, go_sem, *]) rfl ⟨OneRes.of rfl, ?_⟩
 exact frA
end
section
variable (s : ByteArray) (at_ line : Nat) (w : World) (hs : s.size ≤ 1000000) (hat : at_ < s.size)
include hs hat
set_option maxHeartbeats 1000000 in
theorem one_sign (h1 : smallC s[at_] = false) (h2 : capC s[at_] = false) (h3 : digC s[at_] = false) (h4 : s[at_].toNat ≠ 35) :
 Calls Tryz.prog 43 #[.string s, .int .i64 at_, .int .i64 line] w fun e w' => OneRes (oneF (s.data.toList.drop at_) line) e ∧ Fr Nil w w' := by
 have hone : oneF (s.data.toList.drop at_) line = (if (longF (s.data.toList.drop at_) opsL).length < (longF (s.data.toList.drop at_) punctsL).length then (⟨6, longF (s.data.toList.drop at_) punctsL, false, 0, line⟩, 0) else if longF (s.data.toList.drop at_) opsL = [] then (none_ line, 3) else (⟨4, longF (s.data.toList.drop at_) opsL, false, 0, line⟩, 0)) := by
  rw [drop_cons s at_ hat]
  unfold oneF
  simp only
  rw [if_neg (by simp [h1, h2]), if_neg (by simp [h3]), if_neg (fun e => h4 (by rw [e]; rfl))]
 have hl1 := fun b w hb => longest_any s at_ b opsL w hs (by omega) (by decide) (by decide) hb
 have hl2 := fun b w hb => longest_any s at_ b punctsL w hs (by omega) (by decide) (by decide) hb
 rw [show opsL.length = 13 by decide] at hl1
 rw [show punctsL.length = 8 by decide] at hl2
 have p1 := (longF_pre (s.data.toList.drop at_) opsL).length_le
 have p2 := (longF_pre (s.data.toList.drop at_) punctsL).length_le
 rw [List.length_drop, size_of] at p1 p2
 rw [hone]
 generalize longF (s.data.toList.drop at_) opsL = o at *
 generalize longF (s.data.toList.drop at_) punctsL = p at *
 obtain ⟨O, hO⟩ : ∃ O : ByteArray, O = ⟨o.toArray⟩ := ⟨_, rfl⟩
 obtain ⟨P, hP⟩ : ∃ P : ByteArray, P = ⟨p.toArray⟩ := ⟨_, rfl⟩
 have o1 : O.size = o.length := by rw [hO]; simp [ByteArray.size]
 have o2 : P.size = p.length := by rw [hP]; simp [ByteArray.size]
 have o3 : O.data.toList = o := by rw [hO]
 have o4 : P.data.toList = p := by rw [hP]
 have t3 : ((s[at_].toNat : Int) == 35) = false := by simp; omega
 rw [← hO] at hl1
 rw [← hP] at hl2
 have i0 : (0 : Int) ≤ (at_ : Int) := by omega
 have i1 : (at_ : Int) < (s.size : Int) := by omega
 have HL1 := Lib.hid hl1
 have HL2 := Lib.hid hl2
 have HO := Lib.hid (And.intro o1 (And.intro o2 (And.intro o3 o4)))
 have hb1 : O.size ≤ 1000000 := by omega
 have hb2 : P.size ≤ 1000000 := by omega
 clear hone hl1 hl2 hO hP o1 o2 o3 o4 p1 p2 h4
 by_cases g : o.length < p.length
 · rw [if_pos g]
   have g1 : (O.size : Int) < (P.size : Int) := by have := HO.out; omega
   have g2 : P.toList.isEmpty = false := by
    rw [Lib.toList_data, HO.out.2.2.2]
    cases p with
    | nil => simp at g
    | cons a b => rfl
   clear g
   go_enter Tryz.func43, Tryz.ntmps43
   go_wp2_with (first
    | (go_at_call 77; refine (small_any _ _).mono ?_; rintro e w1 ⟨rfl, rfl⟩)
    | (go_at_call 78; refine (cap_any _ _).mono ?_; rintro e w1 ⟨rfl, rfl⟩)
    | (go_at_call 81; refine (dig_any _ _).mono ?_; rintro e w1 ⟨rfl, rfl⟩)
    | fail)
   refine (ops_any _).mono ?_
   rintro e w2 ⟨bo, rfl, bk, f2⟩
   obtain ⟨_, _, _⟩ := f2.at (w.heap.size) (by first | assumption | omega | (simp; done) | (simp; omega)); obtain ⟨_, _, _⟩ := f2.at (w.heap.size + 1) (by first | assumption | omega | (simp; done) | (simp; omega))
   have ff2 : Fr Nil w w2 := Fr.trans (by exact frA) f2 (fun _ _ q => q)
   go_wp2_with fail
   refine (HL1.out bo _ bk).mono ?_
   rintro e w3 ⟨rfl, f3⟩
   have ff3 := ff2.comp f3
   obtain ⟨_, _, _⟩ := f3.at ((w.heap.size)) (by first | assumption | omega | (simp; done) | (simp; omega)); obtain ⟨_, _, _⟩ := f3.at ((w.heap.size + 1)) (by first | assumption | omega | (simp; done) | (simp; omega))
   go_wp2_with fail
   refine (puncts_any _).mono ?_
   rintro e w4 ⟨bp, rfl, bk', f4⟩
   have ff4 := ff3.comp f4
   obtain ⟨_, _, _⟩ := f4.at ((w.heap.size)) (by first | assumption | omega | (simp; done) | (simp; omega)); obtain ⟨_, _, _⟩ := f4.at ((w.heap.size + 1)) (by first | assumption | omega | (simp; done) | (simp; omega))
   go_wp2_with fail
   refine (HL2.out bp _ bk').mono ?_
   rintro e w5 ⟨rfl, f5⟩
   have ff5 := ff4.comp f5
   obtain ⟨_, _, _⟩ := f5.at ((w.heap.size)) (by first | assumption | omega | (simp; done) | (simp; omega)); obtain ⟨_, _, _⟩ := f5.at ((w.heap.size + 1)) (by first | assumption | omega | (simp; done) | (simp; omega))
   have b2 := f2.blk (b := w.heap.size + 1) (c := #[.int .i64 0, .string ⟨#[]⟩, .bool false, .int .u64 0, .int .i64 line]) (t := 41) (by exact blk0) (by simp [Nil])
   have r2 := f2.blk (b := w.heap.size) (c := #[.int .i64 0, .string ⟨#[]⟩, .bool false, .int .u64 0, .int .i64 0]) (t := 41) (by exact blk0) (by simp [Nil])
   have f25 := (f3.comp f4).comp f5
   have b5 := f25.blk b2 (by simp [Nil])
   have r5 := f25.blk r2 (by simp [Nil])
   clear bk bk' b2 r2
   go_upto_region 23 with fail
   obtain ⟨V, hV⟩ : ∃ V, V = (w5.setCell ⟨w.heap.size + 1, 0, none⟩ (.int .i64 4)).setCell ⟨w.heap.size + 1, 1, none⟩ (.string O) := ⟨_, rfl⟩
   rw [← hV]
   have bV : Blk V (w.heap.size + 1) #[.int .i64 4, .string O, .bool false, .int .u64 0, .int .i64 line] 41 := by
    rw [hV]; (unfold Blk; simp (disch := first | omega | (simp; done) | (simp; omega)) only [hp_drew, hp_drewN, hp_alloc, hp_other, hp_same, hp_new, upd_cells, Option.map_some, (b5).eq]); simp
   have rV : Blk V w.heap.size #[.int .i64 0, .string ⟨#[]⟩, .bool false, .int .u64 0, .int .i64 0] 41 := by
    rw [hV]; exact blk1 r5
   have fV : Fr Nil w V := by rw [hV]; exact frA
   clear hV b5 r5
   have p0 := bV.cell 0
   have x0 := bV.free 0
   have q0 := rV.cell 0
   have y0 := rV.free 0
   have p1 := bV.cell 1
   have x1 := bV.free 1
   have q1 := rV.cell 1
   have y1 := rV.free 1
   have p2 := bV.cell 2
   have x2 := bV.free 2
   have q2 := rV.cell 2
   have y2 := rV.free 2
   have p3 := bV.cell 3
   have x3 := bV.free 3
   have q3 := rV.cell 3
   have y3 := rV.free 3
   have p4 := bV.cell 4
   have x4 := bV.free 4
   have q4 := rV.cell 4
   have y4 := rV.free 4
   simp at p0 p1 p2 p3 p4 q0 q1 q2 q3 q4
   have l1 := bV.lt
   have l2 := rV.lt
   go_wp2
   refine bodyPost_ret (v := .tuple #[.agg #[.int .i64 6, .string P, .bool false, .int .u64 ((0 : Nat) : Int), .int .i64 (line : Int)], .int .i64 0]) (by simp [results, Tryz.results43, go_sem, *]) rfl ⟨?_, by exact frA⟩
   rw [tok_ret HO.out.2.2.2]
   exact OneRes.of rfl
 · rw [if_neg g]
   have g1 : ¬ (O.size : Int) < (P.size : Int) := by have := HO.out; omega
   clear g
   by_cases g0 : o = []
   · rw [if_pos g0]
     have g2 : O.toList.isEmpty = true := by rw [Lib.toList_data, HO.out.2.2.1, g0]; rfl
     have g3 : O.toList = [] := by rw [Lib.toList_data, HO.out.2.2.1, g0]
     clear g0
     go_enter Tryz.func43, Tryz.ntmps43
     go_wp2_with (first
      | (go_at_call 77; refine (small_any _ _).mono ?_; rintro e w1 ⟨rfl, rfl⟩)
      | (go_at_call 78; refine (cap_any _ _).mono ?_; rintro e w1 ⟨rfl, rfl⟩)
      | (go_at_call 81; refine (dig_any _ _).mono ?_; rintro e w1 ⟨rfl, rfl⟩)
      | fail)
     refine (ops_any _).mono ?_
     rintro e w2 ⟨bo, rfl, bk, f2⟩
     obtain ⟨_, _, _⟩ := f2.at (w.heap.size) (by first | assumption | omega | (simp; done) | (simp; omega)); obtain ⟨_, _, _⟩ := f2.at (w.heap.size + 1) (by first | assumption | omega | (simp; done) | (simp; omega))
     have ff2 : Fr Nil w w2 := Fr.trans (by exact frA) f2 (fun _ _ q => q)
     go_wp2_with fail
     refine (HL1.out bo _ bk).mono ?_
     rintro e w3 ⟨rfl, f3⟩
     have ff3 := ff2.comp f3
     obtain ⟨_, _, _⟩ := f3.at ((w.heap.size)) (by first | assumption | omega | (simp; done) | (simp; omega)); obtain ⟨_, _, _⟩ := f3.at ((w.heap.size + 1)) (by first | assumption | omega | (simp; done) | (simp; omega))
     go_wp2_with fail
     refine (puncts_any _).mono ?_
     rintro e w4 ⟨bp, rfl, bk', f4⟩
     have ff4 := ff3.comp f4
     obtain ⟨_, _, _⟩ := f4.at ((w.heap.size)) (by first | assumption | omega | (simp; done) | (simp; omega)); obtain ⟨_, _, _⟩ := f4.at ((w.heap.size + 1)) (by first | assumption | omega | (simp; done) | (simp; omega))
     go_wp2_with fail
     refine (HL2.out bp _ bk').mono ?_
     rintro e w5 ⟨rfl, f5⟩
     have ff5 := ff4.comp f5
     obtain ⟨_, _, _⟩ := f5.at ((w.heap.size)) (by first | assumption | omega | (simp; done) | (simp; omega)); obtain ⟨_, _, _⟩ := f5.at ((w.heap.size + 1)) (by first | assumption | omega | (simp; done) | (simp; omega))
     go_wp2
     refine bodyPost_ret (v := .tuple #[.agg #[.int .i64 4, .string O, .bool false, .int .u64 ((0 : Nat) : Int), .int .i64 (line : Int)], .int .i64 3]) (by simp [results, Tryz.results43, go_sem, *]) rfl ⟨?_, by exact frA⟩
     rw [tok_ret HO.out.2.2.1]
     exact ⟨_, rfl, fun q => absurd (show (3 : Int) = 0 from q) (by decide)⟩
   · rw [if_neg g0]
     have g2 : O.toList.isEmpty = false := by
      rw [Lib.toList_data, HO.out.2.2.1]
      cases o with
      | nil => exact absurd rfl g0
      | cons a b => rfl
     clear g0
     go_enter Tryz.func43, Tryz.ntmps43
     go_wp2_with (first
      | (go_at_call 77; refine (small_any _ _).mono ?_; rintro e w1 ⟨rfl, rfl⟩)
      | (go_at_call 78; refine (cap_any _ _).mono ?_; rintro e w1 ⟨rfl, rfl⟩)
      | (go_at_call 81; refine (dig_any _ _).mono ?_; rintro e w1 ⟨rfl, rfl⟩)
      | fail)
     refine (ops_any _).mono ?_
     rintro e w2 ⟨bo, rfl, bk, f2⟩
     obtain ⟨_, _, _⟩ := f2.at (w.heap.size) (by first | assumption | omega | (simp; done) | (simp; omega)); obtain ⟨_, _, _⟩ := f2.at (w.heap.size + 1) (by first | assumption | omega | (simp; done) | (simp; omega))
     have ff2 : Fr Nil w w2 := Fr.trans (by exact frA) f2 (fun _ _ q => q)
     go_wp2_with fail
     refine (HL1.out bo _ bk).mono ?_
     rintro e w3 ⟨rfl, f3⟩
     have ff3 := ff2.comp f3
     obtain ⟨_, _, _⟩ := f3.at ((w.heap.size)) (by first | assumption | omega | (simp; done) | (simp; omega)); obtain ⟨_, _, _⟩ := f3.at ((w.heap.size + 1)) (by first | assumption | omega | (simp; done) | (simp; omega))
     go_wp2_with fail
     refine (puncts_any _).mono ?_
     rintro e w4 ⟨bp, rfl, bk', f4⟩
     have ff4 := ff3.comp f4
     obtain ⟨_, _, _⟩ := f4.at ((w.heap.size)) (by first | assumption | omega | (simp; done) | (simp; omega)); obtain ⟨_, _, _⟩ := f4.at ((w.heap.size + 1)) (by first | assumption | omega | (simp; done) | (simp; omega))
     go_wp2_with fail
     refine (HL2.out bp _ bk').mono ?_
     rintro e w5 ⟨rfl, f5⟩
     have ff5 := ff4.comp f5
     obtain ⟨_, _, _⟩ := f5.at ((w.heap.size)) (by first | assumption | omega | (simp; done) | (simp; omega)); obtain ⟨_, _, _⟩ := f5.at ((w.heap.size + 1)) (by first | assumption | omega | (simp; done) | (simp; omega))
     go_wp2
     refine bodyPost_ret (v := .tuple #[.agg #[.int .i64 4, .string O, .bool false, .int .u64 ((0 : Nat) : Int), .int .i64 (line : Int)], .int .i64 0]) (by simp [results, Tryz.results43, go_sem, *]) rfl ⟨?_, by exact frA⟩
     rw [tok_ret HO.out.2.2.1]
     exact OneRes.of rfl
theorem one_any : Calls Tryz.prog 43 #[.string s, .int .i64 at_, .int .i64 line] w fun e w' => OneRes (oneF (s.data.toList.drop at_) line) e ∧ Fr Nil w w' := by
 by_cases h1 : smallC s[at_] = true
 · exact one_word s at_ line w hs hat (.inl h1)
 · rw [Bool.not_eq_true] at h1
   by_cases h2 : capC s[at_] = true
   · exact one_word s at_ line w hs hat (.inr ⟨h1, h2⟩)
   · rw [Bool.not_eq_true] at h2
     by_cases h3 : digC s[at_] = true
     · exact one_digit s at_ line w hs hat h1 h2 h3
     · rw [Bool.not_eq_true] at h3
       by_cases h4 : s[at_].toNat = 35
       · by_cases h5 : ∃ h : at_ + 1 < s.size, s[at_ + 1].toNat = 45
         · obtain ⟨hz, hm⟩ := h5
           by_cases hr : runF (s.data.toList.drop (at_ + 2)) = []
           · exact one_hash2_no s at_ line w hs hat h4 hz hm hr
           · exact one_hash2_some s at_ line w hs hat h4 hz hm hr
         · have hm : s.size ≤ at_ + 1 ∨ ∃ h : at_ + 1 < s.size, s[at_ + 1].toNat ≠ 45 := by
            rcases Nat.lt_or_ge (at_ + 1) s.size with q | q
            · exact .inr ⟨q, fun e => h5 ⟨q, e⟩⟩
            · exact .inl q
           by_cases hr : runF (s.data.toList.drop (at_ + 1)) = []
           · exact one_hash1_no s at_ line w hs hat h4 hm hr
           · exact one_hash1_some s at_ line w hs hat h4 hm hr
       · exact one_sign s at_ line w hs hat h1 h2 h3 h4
end
theorem infoTok : (Tryz.prog.info? 41).map (fun i => (i.zero, i.size, i.bytes)) = some (some (.agg #[.int .i64 0, .string ⟨#[]⟩, .bool false, .int .u64 0, .int .i64 0]), 5, 48) := by kernel_rfl
def tokCells (t : TokV) : List Value := [.int .i64 t.kind, .string ⟨t.text.toArray⟩, .bool t.flt, .int .u64 (t.bits : Int), .int .i64 (t.line : Int)]
def flatT (l : List TokV) : List Value := l.flatMap tokCells
theorem flatT_snoc (l : List TokV) (t : TokV) : flatT (l ++ [t]) = flatT l ++ tokCells t := by simp [flatT]
theorem Fr.grown0 {w w' : World} (h : Fr Nil w w') : w.grownBy w' none := ⟨h.os, h.tape, h.output, h.size, fun k hk _ => h.block k hk (fun q => q.elim)⟩
theorem owns_fr {w w' : World} {base size n : Nat} {t : TypeId} {v : Value} {xs : List Value} (h : w.ownsRow base t size v n xs) (f : Fr Nil w w') : w'.ownsRow base t size v n xs := h.kept f.grown0 (by cases v.ownBlock <;> simp)
theorem owns_shape {w : World} {base n size : Nat} {t : TypeId} {u : Value} {xs : List Value} (h : w.ownsRow base t size u n xs) : ∃ a cap, u = .slice a n cap := by
 rcases h.2 with ⟨rfl, rfl⟩ | ⟨g, cap, cur, rfl, _⟩
 · exact ⟨_, _, rfl⟩
 · exact ⟨_, _, rfl⟩
def ToksAt (base : Nat) (w : World) (v : Value) (l : List TokV) : Prop := w.ownsRow base 41 5 v l.length (flatT l)
theorem ToksAt.fr {base : Nat} {w w' : World} {v : Value} {l : List TokV} (h : ToksAt base w v l) (f : Fr Nil w w') : ToksAt base w' v l := owns_fr h f
theorem blk_src5 {w : World} {b : Nat} {x y z u v : Value} {t : TypeId} (h : Blk w b #[x, y, z, u, v] t) : Src w (some ⟨b, 0, none⟩) 1 5 [x, y, z, u, v] :=
 .inr ⟨_, rfl, rfl, fun j u hj => by
  rw [add_head, h.cell j]
  simpa using hj⟩
theorem lexG_end (n : Nat) (acc : List TokV) (line : Nat) : lexG n acc [] line = ⟨acc, 0, 0⟩ := by cases n <;> simp [lexG]
theorem lexG_bad {n : Nat} {acc : List TokV} {l : List UInt8} {line : Nat} (hl : l ≠ []) (h : (oneF l line).2 ≠ 0) : lexG (n + 1) acc l line = ⟨[], (oneF l line).2, line⟩ := by
 unfold lexG
 rw [if_neg hl]
 simp only
 rw [if_pos (by rw [if_neg (fun q => h q.1)]; exact h), if_neg (fun q => h q.1)]
theorem lexG_full {n : Nat} {acc : List TokV} {l : List UInt8} {line : Nat} (hl : l ≠ []) (h : (oneF l line).2 = 0) (ha : acc.length = 4096) : lexG (n + 1) acc l line = ⟨[], 2, line⟩ := by
 unfold lexG
 rw [if_neg hl]
 simp only
 rw [if_pos (by rw [if_pos ⟨h, ha⟩]; decide), if_pos ⟨h, ha⟩]
theorem lexG_more {n : Nat} {acc : List TokV} {l : List UInt8} {line : Nat} (hl : l ≠ []) (h : (oneF l line).2 = 0) (ha : acc.length ≠ 4096) :
 lexG (n + 1) acc l line = lexG n (acc ++ [(oneF l line).1]) (skipF false (l.drop (oneF l line).1.text.length) line).1 (skipF false (l.drop (oneF l line).1.text.length) line).2 := by
 conv => lhs; unfold lexG
 rw [if_neg hl]
 simp only
 rw [if_neg (by rw [if_neg (fun q => ha q.2)]; exact fun q => q h)]
set_option maxHeartbeats 2000000 in
theorem rlex_any (s : ByteArray) (w : World) (hs : s.size ≤ 1000000) :
 Calls Tryz.prog 21 #[.string s] w fun e w' => ∃ v, e = .returned (.tuple #[v, .int .i64 (lexF s.data.toList).err, .int .i64 ((lexF s.data.toList).line : Int)]) ∧ ToksAt w.heap.size w' v (lexF s.data.toList).toks ∧ Fr Nil w w' := by
 obtain ⟨i0, hi, hz0, hz1, hz2⟩ := info_parts infoTok
 obtain ⟨R, hR⟩ : ∃ R, lexF s.data.toList = R := ⟨_, rfl⟩
 rw [hR]
 obtain ⟨T, hT⟩ : ∃ T, skipF false s.data.toList 1 = T := ⟨_, rfl⟩
 have hlex : lexG (s.size + 1) [] T.1 T.2 = R := by
  rw [← hR, ← hT]
  unfold lexF
  rw [size_of]
 have hskip := fun w => skip_any s 0 1 w hs (Nat.zero_le _) (by omega)
 simp only [List.drop_zero, hT] at hskip
 have hTd : T.1 = s.data.toList.drop (s.size - T.1.length) := by rw [← hT, ← size_of s]; exact skipF_drop _ _ _
 have hTl : T.2 ≤ 1 + (s.size - T.1.length) := by
  have h1 := skipF_line false s.data.toList 1
  rw [hT, size_of] at h1
  omega
 unfold skipAt at hskip
 obtain ⟨a0, ha0⟩ : ∃ a0, s.size - T.1.length = a0 := ⟨_, rfl⟩
 rw [ha0] at hTd hTl
 simp only [ha0] at hskip
 rw [hTd] at hlex
 have ha0s : a0 ≤ s.size := by omega
 obtain ⟨l0, hl0⟩ : ∃ l0, T.2 = l0 := ⟨_, rfl⟩
 rw [hl0] at hTl hlex
 simp only [hl0] at hskip
 have HLEX := Lib.hid hlex
 have HSKIP := Lib.hid hskip
 clear hR hT hlex hskip hTd ha0 hl0
 go_enter Tryz.func21, Tryz.ntmps21
 go_wp2_with fail
 refine (HSKIP.out _).mono ?_
 rintro e w1 ⟨rfl, rfl⟩
 go_wp2_with fail
 go_loopw [5, 6, 7] (fun vo i n wr => ∃ (acc : List TokV) (a ln f : Nat) (v : Value), v = vo ∧ a ≤ s.size ∧ ln ≤ 1 + a ∧ s.size + 1 ≤ f + a ∧ acc.length ≤ 4096 ∧ i = .int .i64 a ∧ n = .int .i64 ln ∧ Hid (lexG f acc (s.data.toList.drop a) ln = R) ∧ ToksAt w.heap.size wr v acc ∧ Fr Nil w wr) (fun _ i _ _ => s.size - (intOf i).toNat)
 case atStart => exact ⟨[], a0, l0, s.size + 1, _, rfl, ha0s, hTl, by omega, by simp, rfl, rfl, HLEX, World.ownsRow_nil _ _ _ _, Fr.refl _ _⟩
 case round =>
  obtain ⟨acc, a, ln, f, v, rfl, ha, hln, hf, hacc, rfl, rfl, HL, hv, hw⟩ := hrel
  clear HLEX HSKIP hTl ha0s
  by_cases hz : a < s.size
  · obtain ⟨f, rfl⟩ : ∃ g, f = g + 1 := ⟨f - 1, by omega⟩
    have hne : s.data.toList.drop a ≠ [] := by rw [drop_cons s a hz]; simp
    have i1 : (a : Int) < (s.size : Int) := by omega
    have hpre := oneF_pre (s.data.toList.drop a) ln
    have hone := fun w => one_any s a ln w hs hz
    have hbad := fun h => lexG_bad (n := f) (acc := acc) (line := ln) hne h
    have hful := fun h => lexG_full (n := f) (acc := acc) (line := ln) hne h
    have hmor := fun h => lexG_more (n := f) (acc := acc) (line := ln) hne h
    obtain ⟨tk, er, hp⟩ : ∃ tk er, oneF (s.data.toList.drop a) ln = (tk, er) := ⟨_, _, rfl⟩
    rw [hp] at hpre hbad hful hmor
    simp only [hp] at hone
    simp only at hpre hbad hful hmor
    have HONE := Lib.hid hone
    have HPRE := Lib.hid hpre
    obtain ⟨vf, cp, hvf⟩ : ∃ vf cp, v = .slice vf acc.length cp := owns_shape hv
    subst hvf
    have HV := Lib.hid hv
    clear hone hpre hp hne hv
    by_cases he : er = 0
    · subst he
      by_cases hfull : acc.length = 4096
      · have hr := hful rfl hfull
        rw [HL.out] at hr
        have HR := Lib.hid hr
        have t3 : ((acc.length : Int) == 4096) = true := by rw [hfull]; rfl
        clear hbad hful hmor hr HL hfull
        go_wp2_with fail
        refine (HONE.out _).mono ?_
        rintro e w2 ⟨⟨tt, rfl, hq⟩, f2⟩
        clear hq HONE
        unfold tokV
        go_wp2
        go_ret3
        refine ⟨.slice none 0 0, by rw [HR.out]; rfl, by rw [HR.out]; exact World.ownsRow_nil _ _ _ _, ?_⟩
        exact frA
      · have hr := hmor rfl hfull
        rw [HL.out] at hr
        obtain ⟨hp1, hp2, hp3⟩ := HPRE.out rfl
        clear hp3
        obtain ⟨X, hX⟩ : ∃ X : ByteArray, (⟨tk.text.toArray⟩ : ByteArray) = X := ⟨_, rfl⟩
        have hXs : tk.text.length = X.size := by rw [← hX]; simp [ByteArray.size]
        have hpl := hp1.length_le
        rw [List.length_drop, size_of] at hpl
        have hsk : ∀ w, Calls Tryz.prog 42 #[.string s, .int .i64 ((a : Int) + (X.size : Int)), .int .i64 ln] w fun e w' => e = .returned (skipAt s (skipF false (s.data.toList.drop (a + X.size)) ln)) ∧ w = w' := fun w => by
         have := skip_any s (a + X.size) ln w hs (by omega) (by omega)
         rwa [show ((a + X.size : Nat) : Int) = (a : Int) + (X.size : Int) by omega] at this
        rw [List.drop_drop, hXs] at hr
        have q1 := skipF_len false (s.data.toList.drop (a + X.size)) ln
        have q2 := skipF_line false (s.data.toList.drop (a + X.size)) ln
        have q3 := skipF_drop false (s.data.toList.drop (a + X.size)) ln
        rw [List.length_drop, size_of] at q1 q2 q3
        rw [List.drop_drop] at q3
        unfold skipAt at hsk
        obtain ⟨T, hT⟩ : ∃ T, skipF false (s.data.toList.drop (a + X.size)) ln = T := ⟨_, rfl⟩
        rw [hT] at hr q1 q2 q3
        simp only [hT] at hsk
        obtain ⟨a1, ha1⟩ : ∃ a1, s.size - T.1.length = a1 := ⟨_, rfl⟩
        obtain ⟨l1, hl1⟩ : ∃ l1, T.2 = l1 := ⟨_, rfl⟩
        have q4 : a + X.size + (s.size - (a + X.size) - T.1.length) = a1 := by omega
        rw [q4] at q3
        rw [q3, hl1] at hr
        simp only [ha1, hl1] at hsk
        have r1 : a1 ≤ s.size := by omega
        have r2 : a + 1 ≤ a1 := by omega
        have r3 : l1 ≤ 1 + a1 := by omega
        have i2 : (a : Int) + (X.size : Int) ≤ (s.size : Int) := by omega
        have t3 : ((acc.length : Int) == 4096) = false := by simp; omega
        have HR := Lib.hid hr
        have HSK := Lib.hid hsk
        have HX := Lib.hid hX
        have hlt := HV.out.lt
        have HLT := Lib.hid hlt
        clear hbad hful hmor hr HL hT q1 q2 q3 q4 ha1 hl1 hsk hX hXs hp1 hp2 hpl hlt
        go_wp2_with fail
        refine (HONE.out _).mono ?_
        rintro e w2 ⟨⟨tt, rfl, hq⟩, f2⟩
        have hq' := hq rfl
        subst hq'
        clear hq HONE HPRE
        unfold tokV
        rw [HX.out]
        have hs2 := f2.size
        go_wp2_with (first
         | (at_builtin; refine wpList_append_src rfl (.tmp 37) (.tmp 39) 34 rfl w.heap.size 41 i0 (.agg #[.int .i64 0, .string ⟨#[]⟩, .bool false, .int .u64 0, .int .i64 0]) 5 48 Tryz.underlying34 hi hz0 hz1 hz2 rfl (by decide) (.slice vf acc.length cp) acc.length (flatT acc) rfl (HV.out.fr (by exact frA)) (some ⟨w2.heap.size + 1, 0, none⟩) 1 1 [.int .i64 tt.kind, .string X, .bool tt.flt, .int .u64 (tt.bits : Int), .int .i64 (tt.line : Int)] rfl (blk_src5 (t := 41) (by exact blk0)) (by simp [Value.oneCell']) (by unfold maxLen; omega) (by omega) (by have := hw.size; simp; omega) ?_; intro v' w3 hown hgrow hat; have fg := (Fr.refl (fun k => (Value.slice vf acc.length cp).ownBlock = some k) _).grown hgrow (fun k q _ => q); have s3 := fg.blk (b := w2.heap.size) (c := #[.int .i64 tt.kind, .string X, .bool tt.flt, .int .u64 (tt.bits : Int), .int .i64 (tt.line : Int)]) (t := 41) (by exact blk0) (fun q => by have := HLT.out _ q; omega); have p1 := s3.cell 1; simp at p1; have f3 : Fr Nil w w3 := Fr.trans (by exact frA) fg (fun k hk q => by have := HLT.out k q; omega); have HOWN := Lib.hid hown; obtain ⟨g, cap, rfl⟩ := Joins.ownsRow_form hown (by omega); clear hown hgrow hat fg s3)
         | (go_at_call 42; refine (HSK.out _).mono ?_; rintro e w4 ⟨rfl, rfl⟩))
        go_roundw
        case rel => exact ⟨acc ++ [tt], a1, l1, f, _, rfl, r1, r3, by omega, by simp; omega, rfl, rfl, Lib.hid HR.out.symm, by
         have := HOWN.out
         unfold ToksAt
         rw [flatT_snoc]
         unfold tokCells
         rw [HX.out]
         simpa using this, f3⟩
        case measure => simp [intOf]; omega
    · have hr := hbad he
      rw [HL.out] at hr
      have HR := Lib.hid hr
      have t1 : (er == 0) = false := by simpa using he
      have t2 : (er != 0) = true := by simpa using he
      clear hbad hful hmor hr he HL
      go_wp2_with fail
      refine (HONE.out _).mono ?_
      rintro e w2 ⟨⟨tt, rfl, hq⟩, f2⟩
      clear hq HONE
      unfold tokV
      go_wp2
      go_ret3
      refine ⟨.slice none 0 0, by rw [HR.out]; rfl, by rw [HR.out]; exact World.ownsRow_nil _ _ _ _, ?_⟩
      exact frA
  · have hr := HL.out
    rw [drop_end s a (by omega), lexG_end] at hr
    have HR := Lib.hid hr
    have HV := Lib.hid hv
    obtain ⟨vf, cp, rfl⟩ := owns_shape hv
    clear hr HL hv
    go_wp2
    go_ret3
    refine ⟨.slice vf acc.length cp, by rw [← HR.out]; rfl, by rw [← HR.out]; exact HV.out, ?_⟩
    exact frA
end Go.Proofs.YtlnmicddobgppaaGreatDoor
