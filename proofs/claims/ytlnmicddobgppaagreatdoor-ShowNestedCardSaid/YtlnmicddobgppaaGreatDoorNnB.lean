/-
  What the contracts of layer 1's parsing need, where the rest of layer 1 is not reached (rounds but r01). No conditions.
-/
import Derived.Test.YtlnmicddobgppaaGreatDoorRows
import Derived.Deep.LoopGhost
import Derived.Deep.QuietTactic
import Derived.BigQuiet
import Derived.RegionTactic
import Derived.Laws.IdiomStrings
import Derived.Lib.Strings
import Derived.Test.YtlnmicddobgppaaGreatDoorNnA
namespace Go.Proofs.YtlnmicddobgppaaGreatDoor
set_option maxRecDepth 100000
set_option linter.unusedSimpArgs false
set_option linter.unusedVariables false
open Go.RowKit
theorem u64m (n : Int) : IntKind.u64.wrap n = n % 18446744073709551616 := by
 simp [IntKind.wrap, IntKind.signed, IntKind.bits]
theorem agg_ret {a b : Int} {e : Int} {f : Bool} (h : a = b) : Ending.returned (.tuple #[.agg #[.bool f, .int .u64 a], .int .i64 e]) = .returned (.tuple #[.agg #[.bool f, .int .u64 b], .int .i64 e]) := by rw [h]
theorem Fr.ofBelow {w w1 : World} (h : Below w.heap.size w w1) : Fr Nil w w1 := Fr.of_below h (fun k hk q => by omega)
def dgt (c : UInt8) : Nat := if 48 ≤ c.toNat ∧ c.toNat ≤ 57 then c.toNat - 48 else if 97 ≤ c.toNat ∧ c.toNat ≤ 102 then c.toNat - 87 else 99
def numB (b : Nat) (l : List UInt8) : Nat := l.foldl (fun a c => a * b + dgt c) 0
theorem numB_snoc (b : Nat) (l : List UInt8) (c : UInt8) : numB b (l ++ [c]) = numB b l * b + dgt c := by unfold numB; rw [List.foldl_append]; rfl
theorem numB_from (b : Nat) (l : List UInt8) : ∀ (a k : Nat), a < b ^ k → (∀ c ∈ l, dgt c < b) → l.foldl (fun a c => a * b + dgt c) a < b ^ (k + l.length) := by
 induction l with
 | nil => intro a k h _; exact h
 | cons c l ih =>
  intro a k h hc
  have h2 := hc c (by simp)
  have h3 : (a + 1) * b ≤ b ^ k * b := Nat.mul_le_mul_right b h
  rw [Nat.add_mul, Nat.one_mul] at h3
  have := ih (a * b + dgt c) (k + 1) (by rw [Nat.pow_succ]; omega) (fun x hx => hc x (by simp [hx]))
  rw [List.length_cons, show k + (l.length + 1) = k + 1 + l.length by omega]
  exact this
theorem numB_lt (b : Nat) (l : List UInt8) (h : ∀ c ∈ l, dgt c < b) : numB b l < b ^ l.length := by
 have := numB_from b l 0 0 (by simp) h
 rwa [Nat.zero_add] at this
theorem rdigit_any (c : UInt8) (w : World) :
 Calls Tryz.prog 127 #[.int .u8 (c.toNat : Int)] w fun e w' => e = .returned (.int .u64 (dgt c : Int)) ∧ w = w' := by
 have hc : c.toNat < 256 := UInt8.toNat_lt c
 unfold dgt
 generalize c.toNat = n at *
 have h0 : (0 : Int) ≤ (n : Int) := by omega
 by_cases h1 : 48 ≤ n ∧ n ≤ 57
 · rw [if_pos h1]
   have e1 : (48 : Int) ≤ (n : Int) := by omega
   have e2 : (n : Int) ≤ 57 := by omega
   clear h1
   go_enter Tryz.func127, Tryz.ntmps127
   go_wp2
   go_ret
   exact ⟨ret1_int (by (try simp [IntKind.wrap, IntKind.signed, IntKind.bits]); omega), rfl⟩
 · rw [if_neg h1]
   by_cases h2 : 97 ≤ n ∧ n ≤ 102
   · rw [if_pos h2]
     have e1 : (97 : Int) ≤ (n : Int) := by omega
     have e2 : (n : Int) ≤ 102 := by omega
     have e3 : (48 : Int) ≤ (n : Int) := by omega
     have e4 : ¬ (n : Int) ≤ 57 := by omega
     clear h1 h2
     go_enter Tryz.func127, Tryz.ntmps127
     go_wp2
     go_ret
     exact ⟨ret1_int (by (try simp [IntKind.wrap, IntKind.signed, IntKind.bits]); omega), rfl⟩
   · rw [if_neg h2]
     obtain ⟨p, q, r, s, e1, e2, e3, e4, hp, hr⟩ : ∃ p q r s : Bool, decide ((48 : Int) ≤ (n : Int)) = p ∧ decide ((n : Int) ≤ 57) = q ∧ decide ((97 : Int) ≤ (n : Int)) = r ∧ decide ((n : Int) ≤ 102) = s ∧ (p && q) = false ∧ (r && s) = false :=
      ⟨_, _, _, _, rfl, rfl, rfl, rfl, by simp; omega, by simp; omega⟩
     clear h1 h2
     cases p <;> cases q <;> cases r <;> cases s <;> simp at hp hr
     all_goals
      go_enter Tryz.func127, Tryz.ntmps127
      go_wp2
      go_ret
      exact ⟨rfl, rfl⟩
def hexB (l : List UInt8) : Bool := l.all (fun c => decide (dgt c ≤ 15)) && decide (l.length = 16)
def bitsV (l : List UInt8) : Value := if hexB l then .tuple #[.agg #[.bool true, .int .u64 (numB 16 l)], .int .i64 0] else .tuple #[.agg #[.bool false, .int .u64 0], .int .i64 3]
theorem bitsV_bad {l : List UInt8} (h : hexB l = false) : Ending.returned (.tuple #[.agg #[.bool false, .int .u64 0], .int .i64 3]) = .returned (bitsV l) := by unfold bitsV; rw [h]; rfl
theorem bitsV_ok {l : List UInt8} (h : hexB l = true) : Ending.returned (.tuple #[.agg #[.bool true, .int .u64 (numB 16 l)], .int .i64 0]) = .returned (bitsV l) := by unfold bitsV; rw [h]; rfl
theorem byte_at (s : ByteArray) (k : Nat) (h : k < s.size) : s.data.toList[k]? = some s[k] := by
 rw [List.getElem?_eq_getElem (by simpa using h)]; rfl
theorem take_next (s : ByteArray) (k : Nat) (h : k < s.size) : s.data.toList.take (k + 1) = s.data.toList.take k ++ [s[k]] := by
 rw [List.take_succ_eq_append_getElem (by simpa using h)]; rfl
set_option maxHeartbeats 400000 in
theorem rbits_any (s : ByteArray) (w : World) (hs : s.size ≤ 9223372036854775807) :
 Calls Tryz.prog 126 #[.string s] w fun e w' => e = .returned (bitsV s.data.toList) ∧ Fr Nil w w' := by
 go_enter Tryz.func126, Tryz.ntmps126
 go_wp2
 go_loop [4, 5] (fun n i => ∃ (k v : Nat), k ≤ s.size ∧ v < 18446744073709551616 ∧ i = .int .i64 k ∧ n = .int .u64 v ∧ (∀ c ∈ s.data.toList.take k, dgt c ≤ 15) ∧ (k ≤ 16 → v = numB 16 (s.data.toList.take k))) (fun _ i => s.size - (intOf i).toNat)
 case atStart => exact ⟨0, 0, by omega, by omega, rfl, rfl, by simp, fun _ => rfl⟩
 case round =>
  obtain ⟨k, v, hk, hv, rfl, rfl, hall, hval⟩ := hrel
  have HA := Lib.hid hall
  have HV := Lib.hid hval
  clear hall hval
  by_cases hlt : k < s.size
  · have HB := Lib.hid (byte_at s k hlt)
    have HT := Lib.hid (take_next s k hlt)
    by_cases hd : 15 < dgt s[k]
    · have c1 : (15 : Int) < ((dgt s[k] : Nat) : Int) := by omega
      go_wp2_with (go_at_call 127; refine (rdigit_any _ _).mono ?_; rintro e w1 ⟨rfl, rfl⟩)
      refine bodyPost_ret (v := .tuple #[.agg #[.bool false, .int .u64 0], .int .i64 3]) (by simp [results, Tryz.results126, go_sem, *]) rfl ⟨bitsV_bad ?_, ?_⟩
      · unfold hexB
        have hm : s[k] ∈ s.data.toList := List.mem_of_getElem? HB.out
        rw [List.all_eq_false.2 ⟨_, hm, by simp; omega⟩]
        rfl
      · exact frA
    · have c1 : ¬ (15 : Int) < ((dgt s[k] : Nat) : Int) := by omega
      obtain ⟨d, hdd⟩ : ∃ d, dgt s[k] = d := ⟨_, rfl⟩
      rw [hdd] at hd c1
      have HD := Lib.hid hdd
      have HN : Hid (k + 1 ≤ 16 → (v * 16 + d < 18446744073709551616 ∧ v * 16 + d = numB 16 (s.data.toList.take (k + 1)))) := Lib.hid (fun h => by
       have e := HV.out (by omega)
       rw [HT.out, numB_snoc, HD.out, ← e]
       refine ⟨?_, rfl⟩
       have h1 := numB_lt 16 (s.data.toList.take k) (fun c hc => by have := HA.out c hc; omega)
       rw [← e, List.length_take] at h1
       have h2 : 16 ^ (min k s.data.toList.length) ≤ 16 ^ 15 := Nat.pow_le_pow_right (by omega) (by omega)
       omega)
      clear hdd
      go_wp2_with (go_at_call 127; refine (rdigit_any _ _).mono ?_; rw [HD.out]; rintro e w1 ⟨rfl, rfl⟩)
      go_round
      case rel => exact ⟨k + 1, (v * 16 % 18446744073709551616 + d) % 18446744073709551616, by omega, by omega, by go_num, by simp only [u64m]; congr 1, by
       rw [HT.out]
       intro c hc
       simp at hc
       rcases hc with hc | rfl
       · exact HA.out c hc
       · rw [HD.out]; omega, fun h => by
       have := HN.out h
       omega⟩
      case measure => simp [intOf]; omega
  · obtain rfl : k = s.size := by omega
    have hl : s.data.toList.length = s.size := by simp
    have ht : s.data.toList.take s.size = s.data.toList := List.take_of_length_le (by omega)
    have HL := Lib.hid (And.intro hl ht)
    clear hl ht
    by_cases h16 : s.size = 16
    · have c1 : ((s.size : Int) == 16) = true := by simp; omega
      have c2 : ((s.size : Int) != 16) = false := by simp; omega
      have H16 := Lib.hid h16
      clear h16
      go_wp2
      refine bodyPost_ret (v := .tuple #[.agg #[.bool true, .int .u64 v], .int .i64 0]) (by simp [results, Tryz.results126, go_sem, *]) rfl ⟨?_, ?_⟩
      · have hv := HV.out (by have := H16.out; omega)
        rw [HL.out.2] at hv
        rw [hv]
        refine bitsV_ok ?_
        unfold hexB
        have ha := HA.out
        rw [HL.out.2] at ha
        rw [Bool.and_eq_true]
        exact ⟨List.all_eq_true.2 (fun c hc => by simpa using ha c hc), by rw [HL.out.1]; simpa using H16.out⟩
      · exact frA
    · have c1 : ((s.size : Int) == 16) = false := by simp; omega
      have c2 : ((s.size : Int) != 16) = true := by simp; omega
      go_wp2
      refine bodyPost_ret (v := .tuple #[.agg #[.bool false, .int .u64 0], .int .i64 3]) (by simp [results, Tryz.results126, go_sem, *]) rfl ⟨bitsV_bad ?_, ?_⟩
      · unfold hexB
        rw [show decide (s.data.toList.length = 16) = false by rw [HL.out.1]; simpa using h16, Bool.and_false]
      · exact frA
def resV (b : Nat) (e : Int) : Value := .tuple #[.agg #[.bool false, .int .u64 (b : Int)], .int .i64 e]
def decB (l : List UInt8) : Bool := l.all (fun c => decide (dgt c ≤ 9))
def formB (d s : List UInt8) : Bool := decB d && !d.isEmpty && !(d.head? == some 48 && !(s == [48]))
def parseV (minus : Bool) (d s : List UInt8) : Value :=
 if formB d s then
  if 9223372036854775808 < numB 10 d then resV 0 1
  else if minus then resV ((18446744073709551616 - numB 10 d) % 18446744073709551616) 0
  else if numB 10 d = 9223372036854775808 then resV 0 1 else resV (numB 10 d) 0
 else resV 0 3
theorem parseV_form {m : Bool} {d s : List UInt8} (h : formB d s = false) : Ending.returned (.tuple #[.agg #[.bool false, .int .u64 0], .int .i64 3]) = .returned (parseV m d s) := by unfold parseV; rw [h]; rfl
theorem parseV_great {m : Bool} {d s : List UInt8} (h : formB d s = true) (hn : 9223372036854775808 < numB 10 d) : Ending.returned (.tuple #[.agg #[.bool false, .int .u64 0], .int .i64 1]) = .returned (parseV m d s) := by unfold parseV; rw [h, if_pos rfl, if_pos hn]; rfl
theorem parseV_edge {d s : List UInt8} (h : formB d s = true) (hn : numB 10 d = 9223372036854775808) : Ending.returned (.tuple #[.agg #[.bool false, .int .u64 0], .int .i64 1]) = .returned (parseV false d s) := by
 unfold parseV; rw [h, if_pos rfl, if_neg (by omega), if_neg (by simp), if_pos hn]; rfl
theorem parseV_minus {d s : List UInt8} (h : formB d s = true) (hn : numB 10 d ≤ 9223372036854775808) : Ending.returned (.tuple #[.agg #[.bool false, .int .u64 (((18446744073709551616 - numB 10 d) % 18446744073709551616 : Nat) : Int)], .int .i64 0]) = .returned (parseV true d s) := by
 unfold parseV; rw [h, if_pos rfl, if_neg (by omega), if_pos rfl]; rfl
theorem parseV_plus {d s : List UInt8} (h : formB d s = true) (hn : numB 10 d < 9223372036854775808) : Ending.returned (.tuple #[.agg #[.bool false, .int .u64 ((numB 10 d : Nat) : Int)], .int .i64 0]) = .returned (parseV false d s) := by
 unfold parseV; rw [h, if_pos rfl, if_neg (by omega), if_neg (by simp), if_neg (by omega)]; rfl
theorem numB_ge (b : Nat) (hb : 1 ≤ b) (l m : List UInt8) : numB b l ≤ numB b (l ++ m) := by
 have key : ∀ (m : List UInt8) (a : Nat), a ≤ m.foldl (fun a c => a * b + dgt c) a := by
  intro m
  induction m with
  | nil => intro a; exact Nat.le_refl _
  | cons c m ih =>
   intro a
   have h1 : a * 1 ≤ a * b := Nat.mul_le_mul_left a hb
   exact Nat.le_trans (by omega) (ih (a * b + dgt c))
 unfold numB
 rw [List.foldl_append]
 exact key m _
theorem numB_take (b : Nat) (hb : 1 ≤ b) (l : List UInt8) (k : Nat) : numB b (l.take k) ≤ numB b l := by
 have := numB_ge b hb (l.take k) (l.drop k)
 rwa [List.take_append_drop] at this
theorem decB_not {l : List UInt8} {c : UInt8} (hm : c ∈ l) (h : 9 < dgt c) : decB l = false := List.all_eq_false.2 ⟨_, hm, by simp; omega⟩
theorem decB_all {l : List UInt8} (h : ∀ c ∈ l, dgt c ≤ 9) : decB l = true := List.all_eq_true.2 fun c hc => by simpa using h c hc
set_option maxHeartbeats 1000000 in
theorem rparse_D (s : ByteArray) (w : World) (hs : s.size ≤ 9223372036854775807) (h2 : 2 ≤ s.size) (hF : ((s.extract 0 2).toList == [48, 102]) = false) (hM : s[0].toNat = 45) :
 Calls Tryz.prog 108 #[.string s] w fun e w' => e = .returned (parseV true (s.extract 1 s.size).data.toList s.data.toList) ∧ Fr Nil w w' := by
 have h2' : (2 : Int) ≤ (s.size : Int) := by omega
 have h0 : 0 < s.size := by omega
 have hM' : ((s[0].toNat : Int) == 45) = true := by simp; omega
 obtain ⟨d, hd⟩ : ∃ d, s.extract 1 s.size = d := ⟨_, rfl⟩
 have hds : d.size = s.size - 1 := by rw [← hd]; simp
 rw [hd]
 have HDS := Lib.hid hds
 have hdb : d.size ≤ 9223372036854775807 := by omega
 clear hds h2 hM
 go_enter Tryz.func108, Tryz.ntmps108
 go_wp2
 go_loop [6] (fun i => ∃ k : Nat, k ≤ d.size ∧ i = .int .i64 k ∧ ∀ c ∈ d.data.toList.take k, dgt c ≤ 9) (fun i => d.size - (intOf i).toNat)
 case atStart => exact ⟨0, by omega, rfl, by simp⟩
 case round =>
  obtain ⟨k, hk, rfl, hall⟩ := hrel
  have HA := Lib.hid hall
  clear hall
  by_cases hlt : k < d.size
  · have HB := Lib.hid (byte_at d k hlt)
    have HT := Lib.hid (take_next d k hlt)
    by_cases hd : 9 < dgt d[k]
    · have c1 : (9 : Int) < ((dgt d[k] : Nat) : Int) := by omega
      go_wp2_with (go_at_call 127; refine (rdigit_any _ _).mono ?_; rintro e w1 ⟨rfl, rfl⟩)
      refine bodyPost_ret (v := .tuple #[.agg #[.bool false, .int .u64 0], .int .i64 3]) (by simp [results, Tryz.results108, go_sem, *]) rfl ⟨parseV_form ?_, ?_⟩
      · unfold formB
        rw [decB_not (List.mem_of_getElem? HB.out) hd]
        rfl
      · exact frA
    · have c1 : ¬ (9 : Int) < ((dgt d[k] : Nat) : Int) := by omega
      have HD : Hid (dgt d[k] ≤ 9) := Lib.hid (by omega)
      go_wp2_with (go_at_call 127; refine (rdigit_any _ _).mono ?_; rintro e w1 ⟨rfl, rfl⟩)
      go_round
      case rel => exact ⟨k + 1, by omega, by go_num, by
       rw [HT.out]
       intro c hc
       simp at hc
       rcases hc with hc | rfl
       · exact HA.out c hc
       · exact HD.out⟩
      case measure => simp [intOf]; omega
  · obtain rfl : k = d.size := by omega
    have ht : d.data.toList.take d.size = d.data.toList := List.take_of_length_le (by simp)
    have HC : Hid (decB d.data.toList = true) := Lib.hid (decB_all (by have := HA.out; rwa [ht] at this))
    have HT2 := Lib.hid ht
    clear ht
    by_cases hz : d.size = 0
    · have e1 : d.toList = [] := by rw [Lib.toList_data]; exact List.eq_nil_of_length_eq_zero (by simpa using hz)
      have e2 : d.toList.isEmpty = true := by rw [e1]; rfl
      go_wp2
      refine bodyPost_ret (v := .tuple #[.agg #[.bool false, .int .u64 0], .int .i64 3]) (by simp [results, Tryz.results108, go_sem, *]) rfl ⟨parseV_form ?_, ?_⟩
      · unfold formB
        rw [← Lib.toList_data d, e2]
        simp
      · exact frA
    · have hd0 : 0 < d.size := by omega
      have e2 : d.toList.isEmpty = false := by
       cases h : d.toList with
       | nil =>
        exfalso
        rw [Lib.toList_data] at h
        have q : d.data.toList.length = d.size := by simp
        rw [h] at q
        simp only [List.length_nil] at q
        omega
       | cons c l => rfl
      have e3 : (d.toList == []) = false := by
       cases h : d.toList with
       | nil => rw [h] at e2; cases e2
       | cons c l => rfl
      have hh : d.data.toList.head? = some d[0] := by rw [List.head?_eq_getElem?]; exact byte_at d 0 hd0
      have HE : Hid (∀ q1 q2 : Bool, ((d[0].toNat : Int) == 48) = q1 → (s.toList == [48]) = q2 → formB d.data.toList s.data.toList = !(q1 && !q2)) := Lib.hid (by
       intro q1 q2 h1 h2
       unfold formB
       rw [HC.out, hh]
       simp only [← Lib.toList_data, e2, h2]
       have h3 : (some d[0] == some (48 : UInt8)) = q1 := by
        rw [← h1, Bool.eq_iff_iff]
        simp
        constructor
        · intro h; rw [h]; rfl
        · intro h; exact UInt8.toNat_inj.1 (by have q : (48 : UInt8).toNat = 48 := rfl; omega)
       rw [h3]
       simp)
      obtain ⟨q1, hq1⟩ : ∃ q, ((d[0].toNat : Int) == 48) = q := ⟨_, rfl⟩
      obtain ⟨q2, hq2⟩ : ∃ q, (s.toList == [48]) = q := ⟨_, rfl⟩
      have hq2' : (s.toList != [48]) = !q2 := by rw [← hq2]; rfl
      have HFm := Lib.hid (HE.out q1 q2 hq1 hq2)
      clear HE hh
      by_cases hb : (q1 && !q2) = true
      · obtain ⟨rfl, rfl⟩ : q1 = true ∧ q2 = false := by simpa using hb
        have HFm' : Hid (formB d.data.toList s.data.toList = false) := HFm
        clear HFm hb
        go_wp2
        refine bodyPost_ret (v := .tuple #[.agg #[.bool false, .int .u64 0], .int .i64 3]) (by simp [results, Tryz.results108, go_sem, *]) rfl ⟨parseV_form HFm'.out, ?_⟩
        exact frA
      · have hb' : (q1 && !q2) = false := by simpa using hb
        rw [hb'] at HFm
        have HFm' : Hid (formB d.data.toList s.data.toList = true) := HFm
        clear HFm hb
        cases q1 <;> cases q2 <;> simp at hb'
        all_goals
         go_wp2
         go_loop [7, 8] (fun n i => ∃ k v : Nat, k ≤ d.size ∧ v ≤ 9223372036854775808 ∧ i = .int .i64 k ∧ n = .int .u64 v ∧ v = numB 10 (d.data.toList.take k)) (fun _ i => d.size - (intOf i).toNat)
         case atStart => exact ⟨0, 0, by omega, by omega, rfl, rfl, by simp [numB]⟩
         case round =>
          obtain ⟨k, v, hk, hv, rfl, rfl, hval⟩ := hrel
          have HV := Lib.hid hval
          clear hval
          by_cases hlt : k < d.size
          · have HT := Lib.hid (take_next d k hlt)
            obtain ⟨c, hc⟩ : ∃ c, dgt d[k] = c := ⟨_, rfl⟩
            have hc9 : c ≤ 9 := by
             rw [← hc]
             have := HA.out d[k] (by rw [HT2.out]; exact List.mem_of_getElem? (byte_at d k hlt))
             exact this
            have HN : Hid (numB 10 (d.data.toList.take (k + 1)) = v * 10 + c) := Lib.hid (by rw [HT.out, numB_snoc, hc, ← HV.out])
            have HCc := Lib.hid hc
            clear hc
            by_cases hg : v * 10 + c ≤ 9223372036854775808
            · have c1 : ¬ ((9223372036854775808 : Int) - (c : Int)) / 10 < (v : Int) := by omega
              have c2 : (0 : Int) ≤ (c : Int) := by omega
              have c3 : (c : Int) ≤ 9 := by omega
              have c4 : (v : Int) * 10 + (c : Int) ≤ 9223372036854775808 := by omega
              have HG := Lib.hid hg
              clear hg
              go_wp2_with (go_at_call 127; refine (rdigit_any _ _).mono ?_; rw [HCc.out]; rintro e w1 ⟨rfl, rfl⟩)
              go_round
              case rel => exact ⟨k + 1, v * 10 + c, by omega, HG.out, by go_num, by first | go_num | (simp only [u64m]; congr 1; omega), HN.out.symm⟩
              case measure => simp [intOf]; omega
            · have c1 : ((9223372036854775808 : Int) - (c : Int)) / 10 < (v : Int) := by omega
              have c2 : (0 : Int) ≤ (c : Int) := by omega
              have c3 : (c : Int) ≤ 9 := by omega
              have HG : Hid (9223372036854775808 < numB 10 d.data.toList) := Lib.hid (by have := numB_take 10 (by omega) d.data.toList (k + 1); rw [HN.out] at this; omega)
              go_wp2_with (go_at_call 127; refine (rdigit_any _ _).mono ?_; rw [HCc.out]; rintro e w1 ⟨rfl, rfl⟩)
              refine bodyPost_ret (v := .tuple #[.agg #[.bool false, .int .u64 0], .int .i64 1]) (by simp [results, Tryz.results108, go_sem, *]) rfl ⟨parseV_great HFm'.out HG.out, ?_⟩
              exact frA
          · obtain rfl : k = d.size := by omega
            have HV' : Hid (v = numB 10 d.data.toList) := Lib.hid (by rw [HV.out, HT2.out])
            go_wp2
            refine bodyPost_ret (v := .tuple #[.agg #[.bool false, .int .u64 (IntKind.u64.wrap (-(v : Int)))], .int .i64 0]) (by simp [results, Tryz.results108, go_sem, *]) rfl ⟨?_, ?_⟩
            · refine Eq.trans (agg_ret ?_) (parseV_minus HFm'.out (by rw [← HV'.out]; exact hv))
              rw [← HV'.out, u64m]
              omega
            · exact frA
set_option maxHeartbeats 1000000 in
theorem rparse_E (s : ByteArray) (w : World) (hs : s.size ≤ 9223372036854775807) (h2 : 2 ≤ s.size) (hF : ((s.extract 0 2).toList == [48, 102]) = false) (hM : s[0].toNat ≠ 45) :
 Calls Tryz.prog 108 #[.string s] w fun e w' => e = .returned (parseV false (s).data.toList s.data.toList) ∧ Fr Nil w w' := by
 have h2' : (2 : Int) ≤ (s.size : Int) := by omega
 have h0 : 0 < s.size := by omega
 have hM' : ((s[0].toNat : Int) == 45) = false := by simp; omega
 clear h2 hM
 go_enter Tryz.func108, Tryz.ntmps108
 go_wp2
 go_loop [6] (fun i => ∃ k : Nat, k ≤ s.size ∧ i = .int .i64 k ∧ ∀ c ∈ s.data.toList.take k, dgt c ≤ 9) (fun i => s.size - (intOf i).toNat)
 case atStart => exact ⟨0, by omega, rfl, by simp⟩
 case round =>
  obtain ⟨k, hk, rfl, hall⟩ := hrel
  have HA := Lib.hid hall
  clear hall
  by_cases hlt : k < s.size
  · have HB := Lib.hid (byte_at s k hlt)
    have HT := Lib.hid (take_next s k hlt)
    by_cases hd : 9 < dgt s[k]
    · have c1 : (9 : Int) < ((dgt s[k] : Nat) : Int) := by omega
      go_wp2_with (go_at_call 127; refine (rdigit_any _ _).mono ?_; rintro e w1 ⟨rfl, rfl⟩)
      refine bodyPost_ret (v := .tuple #[.agg #[.bool false, .int .u64 0], .int .i64 3]) (by simp [results, Tryz.results108, go_sem, *]) rfl ⟨parseV_form ?_, ?_⟩
      · unfold formB
        rw [decB_not (List.mem_of_getElem? HB.out) hd]
        rfl
      · exact frA
    · have c1 : ¬ (9 : Int) < ((dgt s[k] : Nat) : Int) := by omega
      have HD : Hid (dgt s[k] ≤ 9) := Lib.hid (by omega)
      go_wp2_with (go_at_call 127; refine (rdigit_any _ _).mono ?_; rintro e w1 ⟨rfl, rfl⟩)
      go_round
      case rel => exact ⟨k + 1, by omega, by go_num, by
       rw [HT.out]
       intro c hc
       simp at hc
       rcases hc with hc | rfl
       · exact HA.out c hc
       · exact HD.out⟩
      case measure => simp [intOf]; omega
  · obtain rfl : k = s.size := by omega
    have ht : s.data.toList.take s.size = s.data.toList := List.take_of_length_le (by simp)
    have HC : Hid (decB s.data.toList = true) := Lib.hid (decB_all (by have := HA.out; rwa [ht] at this))
    have HT2 := Lib.hid ht
    clear ht
    by_cases hz : s.size = 0
    · exfalso; omega
    · have hd0 : 0 < s.size := by omega
      have e2 : s.toList.isEmpty = false := by
       cases h : s.toList with
       | nil =>
        exfalso
        rw [Lib.toList_data] at h
        have q : s.data.toList.length = s.size := by simp
        rw [h] at q
        simp only [List.length_nil] at q
        omega
       | cons c l => rfl
      have e3 : (s.toList == []) = false := by
       cases h : s.toList with
       | nil => rw [h] at e2; cases e2
       | cons c l => rfl
      have hh : s.data.toList.head? = some s[0] := by rw [List.head?_eq_getElem?]; exact byte_at s 0 hd0
      have HE : Hid (∀ q1 q2 : Bool, ((s[0].toNat : Int) == 48) = q1 → (s.toList == [48]) = q2 → formB s.data.toList s.data.toList = !(q1 && !q2)) := Lib.hid (by
       intro q1 q2 h1 h2
       unfold formB
       rw [HC.out, hh]
       simp only [← Lib.toList_data, e2, h2]
       have h3 : (some s[0] == some (48 : UInt8)) = q1 := by
        rw [← h1, Bool.eq_iff_iff]
        simp
        constructor
        · intro h; rw [h]; rfl
        · intro h; exact UInt8.toNat_inj.1 (by have q : (48 : UInt8).toNat = 48 := rfl; omega)
       rw [h3]
       simp)
      obtain ⟨q1, hq1⟩ : ∃ q, ((s[0].toNat : Int) == 48) = q := ⟨_, rfl⟩
      obtain ⟨q2, hq2⟩ : ∃ q, (s.toList == [48]) = q := ⟨_, rfl⟩
      have hq2' : (s.toList != [48]) = !q2 := by rw [← hq2]; rfl
      have HFm := Lib.hid (HE.out q1 q2 hq1 hq2)
      clear HE hh
      by_cases hb : (q1 && !q2) = true
      · obtain ⟨rfl, rfl⟩ : q1 = true ∧ q2 = false := by simpa using hb
        have HFm' : Hid (formB s.data.toList s.data.toList = false) := HFm
        clear HFm hb
        go_wp2
        refine bodyPost_ret (v := .tuple #[.agg #[.bool false, .int .u64 0], .int .i64 3]) (by simp [results, Tryz.results108, go_sem, *]) rfl ⟨parseV_form HFm'.out, ?_⟩
        exact frA
      · have hb' : (q1 && !q2) = false := by simpa using hb
        rw [hb'] at HFm
        have HFm' : Hid (formB s.data.toList s.data.toList = true) := HFm
        clear HFm hb
        cases q1 <;> cases q2 <;> simp at hb'
        all_goals
         go_wp2
         go_loop [7, 8] (fun n i => ∃ k v : Nat, k ≤ s.size ∧ v ≤ 9223372036854775808 ∧ i = .int .i64 k ∧ n = .int .u64 v ∧ v = numB 10 (s.data.toList.take k)) (fun _ i => s.size - (intOf i).toNat)
         case atStart => exact ⟨0, 0, by omega, by omega, rfl, rfl, by simp [numB]⟩
         case round =>
          obtain ⟨k, v, hk, hv, rfl, rfl, hval⟩ := hrel
          have HV := Lib.hid hval
          clear hval
          by_cases hlt : k < s.size
          · have HT := Lib.hid (take_next s k hlt)
            obtain ⟨c, hc⟩ : ∃ c, dgt s[k] = c := ⟨_, rfl⟩
            have hc9 : c ≤ 9 := by
             rw [← hc]
             have := HA.out s[k] (by rw [HT2.out]; exact List.mem_of_getElem? (byte_at s k hlt))
             exact this
            have HN : Hid (numB 10 (s.data.toList.take (k + 1)) = v * 10 + c) := Lib.hid (by rw [HT.out, numB_snoc, hc, ← HV.out])
            have HCc := Lib.hid hc
            clear hc
            by_cases hg : v * 10 + c ≤ 9223372036854775808
            · have c1 : ¬ ((9223372036854775808 : Int) - (c : Int)) / 10 < (v : Int) := by omega
              have c2 : (0 : Int) ≤ (c : Int) := by omega
              have c3 : (c : Int) ≤ 9 := by omega
              have c4 : (v : Int) * 10 + (c : Int) ≤ 9223372036854775808 := by omega
              have HG := Lib.hid hg
              clear hg
              go_wp2_with (go_at_call 127; refine (rdigit_any _ _).mono ?_; rw [HCc.out]; rintro e w1 ⟨rfl, rfl⟩)
              go_round
              case rel => exact ⟨k + 1, v * 10 + c, by omega, HG.out, by go_num, by first | go_num | (simp only [u64m]; congr 1; omega), HN.out.symm⟩
              case measure => simp [intOf]; omega
            · have c1 : ((9223372036854775808 : Int) - (c : Int)) / 10 < (v : Int) := by omega
              have c2 : (0 : Int) ≤ (c : Int) := by omega
              have c3 : (c : Int) ≤ 9 := by omega
              have HG : Hid (9223372036854775808 < numB 10 s.data.toList) := Lib.hid (by have := numB_take 10 (by omega) s.data.toList (k + 1); rw [HN.out] at this; omega)
              go_wp2_with (go_at_call 127; refine (rdigit_any _ _).mono ?_; rw [HCc.out]; rintro e w1 ⟨rfl, rfl⟩)
              refine bodyPost_ret (v := .tuple #[.agg #[.bool false, .int .u64 0], .int .i64 1]) (by simp [results, Tryz.results108, go_sem, *]) rfl ⟨parseV_great HFm'.out HG.out, ?_⟩
              exact frA
          · obtain rfl : k = s.size := by omega
            have HV' : Hid (v = numB 10 s.data.toList) := Lib.hid (by rw [HV.out, HT2.out])
            by_cases hed : v = 9223372036854775808
            · have c1 : ((v : Int) == 9223372036854775808) = true := by simp; omega
              have HED := Lib.hid hed
              clear hed
              go_wp2
              refine bodyPost_ret (v := .tuple #[.agg #[.bool false, .int .u64 0], .int .i64 1]) (by simp [results, Tryz.results108, go_sem, *]) rfl ⟨parseV_edge HFm'.out (by rw [← HV'.out]; exact HED.out), ?_⟩
              exact frA
            · have c1 : ((v : Int) == 9223372036854775808) = false := by simp; omega
              go_wp2
              refine bodyPost_ret (v := .tuple #[.agg #[.bool false, .int .u64 v], .int .i64 0]) (by simp [results, Tryz.results108, go_sem, *]) rfl ⟨?_, ?_⟩
              · refine Eq.trans (agg_ret ?_) (parseV_plus HFm'.out (by rw [← HV'.out]; omega))
                rw [← HV'.out]
              · exact frA
set_option maxHeartbeats 1000000 in
theorem rparse_C (s : ByteArray) (w : World) (hs : s.size ≤ 9223372036854775807) (h1 : s.size = 1) (h0 : 0 < s.size) (hM : s[0].toNat ≠ 45) :
 Calls Tryz.prog 108 #[.string s] w fun e w' => e = .returned (parseV false (s).data.toList s.data.toList) ∧ Fr Nil w w' := by
 have h2' : ¬ (2 : Int) ≤ (s.size : Int) := by omega
 have hM' : ((s[0].toNat : Int) == 45) = false := by simp; omega
 clear h1 hM
 go_enter Tryz.func108, Tryz.ntmps108
 go_wp2
 go_loop [6] (fun i => ∃ k : Nat, k ≤ s.size ∧ i = .int .i64 k ∧ ∀ c ∈ s.data.toList.take k, dgt c ≤ 9) (fun i => s.size - (intOf i).toNat)
 case atStart => exact ⟨0, by omega, rfl, by simp⟩
 case round =>
  obtain ⟨k, hk, rfl, hall⟩ := hrel
  have HA := Lib.hid hall
  clear hall
  by_cases hlt : k < s.size
  · have HB := Lib.hid (byte_at s k hlt)
    have HT := Lib.hid (take_next s k hlt)
    by_cases hd : 9 < dgt s[k]
    · have c1 : (9 : Int) < ((dgt s[k] : Nat) : Int) := by omega
      go_wp2_with (go_at_call 127; refine (rdigit_any _ _).mono ?_; rintro e w1 ⟨rfl, rfl⟩)
      refine bodyPost_ret (v := .tuple #[.agg #[.bool false, .int .u64 0], .int .i64 3]) (by simp [results, Tryz.results108, go_sem, *]) rfl ⟨parseV_form ?_, ?_⟩
      · unfold formB
        rw [decB_not (List.mem_of_getElem? HB.out) hd]
        rfl
      · exact frA
    · have c1 : ¬ (9 : Int) < ((dgt s[k] : Nat) : Int) := by omega
      have HD : Hid (dgt s[k] ≤ 9) := Lib.hid (by omega)
      go_wp2_with (go_at_call 127; refine (rdigit_any _ _).mono ?_; rintro e w1 ⟨rfl, rfl⟩)
      go_round
      case rel => exact ⟨k + 1, by omega, by go_num, by
       rw [HT.out]
       intro c hc
       simp at hc
       rcases hc with hc | rfl
       · exact HA.out c hc
       · exact HD.out⟩
      case measure => simp [intOf]; omega
  · obtain rfl : k = s.size := by omega
    have ht : s.data.toList.take s.size = s.data.toList := List.take_of_length_le (by simp)
    have HC : Hid (decB s.data.toList = true) := Lib.hid (decB_all (by have := HA.out; rwa [ht] at this))
    have HT2 := Lib.hid ht
    clear ht
    by_cases hz : s.size = 0
    · exfalso; omega
    · have hd0 : 0 < s.size := by omega
      have e2 : s.toList.isEmpty = false := by
       cases h : s.toList with
       | nil =>
        exfalso
        rw [Lib.toList_data] at h
        have q : s.data.toList.length = s.size := by simp
        rw [h] at q
        simp only [List.length_nil] at q
        omega
       | cons c l => rfl
      have e3 : (s.toList == []) = false := by
       cases h : s.toList with
       | nil => rw [h] at e2; cases e2
       | cons c l => rfl
      have hh : s.data.toList.head? = some s[0] := by rw [List.head?_eq_getElem?]; exact byte_at s 0 hd0
      have HE : Hid (∀ q1 q2 : Bool, ((s[0].toNat : Int) == 48) = q1 → (s.toList == [48]) = q2 → formB s.data.toList s.data.toList = !(q1 && !q2)) := Lib.hid (by
       intro q1 q2 h1 h2
       unfold formB
       rw [HC.out, hh]
       simp only [← Lib.toList_data, e2, h2]
       have h3 : (some s[0] == some (48 : UInt8)) = q1 := by
        rw [← h1, Bool.eq_iff_iff]
        simp
        constructor
        · intro h; rw [h]; rfl
        · intro h; exact UInt8.toNat_inj.1 (by have q : (48 : UInt8).toNat = 48 := rfl; omega)
       rw [h3]
       simp)
      obtain ⟨q1, hq1⟩ : ∃ q, ((s[0].toNat : Int) == 48) = q := ⟨_, rfl⟩
      obtain ⟨q2, hq2⟩ : ∃ q, (s.toList == [48]) = q := ⟨_, rfl⟩
      have hq2' : (s.toList != [48]) = !q2 := by rw [← hq2]; rfl
      have HFm := Lib.hid (HE.out q1 q2 hq1 hq2)
      clear HE hh
      by_cases hb : (q1 && !q2) = true
      · obtain ⟨rfl, rfl⟩ : q1 = true ∧ q2 = false := by simpa using hb
        have HFm' : Hid (formB s.data.toList s.data.toList = false) := HFm
        clear HFm hb
        go_wp2
        refine bodyPost_ret (v := .tuple #[.agg #[.bool false, .int .u64 0], .int .i64 3]) (by simp [results, Tryz.results108, go_sem, *]) rfl ⟨parseV_form HFm'.out, ?_⟩
        exact frA
      · have hb' : (q1 && !q2) = false := by simpa using hb
        rw [hb'] at HFm
        have HFm' : Hid (formB s.data.toList s.data.toList = true) := HFm
        clear HFm hb
        cases q1 <;> cases q2 <;> simp at hb'
        all_goals
         go_wp2
         go_loop [7, 8] (fun n i => ∃ k v : Nat, k ≤ s.size ∧ v ≤ 9223372036854775808 ∧ i = .int .i64 k ∧ n = .int .u64 v ∧ v = numB 10 (s.data.toList.take k)) (fun _ i => s.size - (intOf i).toNat)
         case atStart => exact ⟨0, 0, by omega, by omega, rfl, rfl, by simp [numB]⟩
         case round =>
          obtain ⟨k, v, hk, hv, rfl, rfl, hval⟩ := hrel
          have HV := Lib.hid hval
          clear hval
          by_cases hlt : k < s.size
          · have HT := Lib.hid (take_next s k hlt)
            obtain ⟨c, hc⟩ : ∃ c, dgt s[k] = c := ⟨_, rfl⟩
            have hc9 : c ≤ 9 := by
             rw [← hc]
             have := HA.out s[k] (by rw [HT2.out]; exact List.mem_of_getElem? (byte_at s k hlt))
             exact this
            have HN : Hid (numB 10 (s.data.toList.take (k + 1)) = v * 10 + c) := Lib.hid (by rw [HT.out, numB_snoc, hc, ← HV.out])
            have HCc := Lib.hid hc
            clear hc
            by_cases hg : v * 10 + c ≤ 9223372036854775808
            · have c1 : ¬ ((9223372036854775808 : Int) - (c : Int)) / 10 < (v : Int) := by omega
              have c2 : (0 : Int) ≤ (c : Int) := by omega
              have c3 : (c : Int) ≤ 9 := by omega
              have c4 : (v : Int) * 10 + (c : Int) ≤ 9223372036854775808 := by omega
              have HG := Lib.hid hg
              clear hg
              go_wp2_with (go_at_call 127; refine (rdigit_any _ _).mono ?_; rw [HCc.out]; rintro e w1 ⟨rfl, rfl⟩)
              go_round
              case rel => exact ⟨k + 1, v * 10 + c, by omega, HG.out, by go_num, by first | go_num | (simp only [u64m]; congr 1; omega), HN.out.symm⟩
              case measure => simp [intOf]; omega
            · have c1 : ((9223372036854775808 : Int) - (c : Int)) / 10 < (v : Int) := by omega
              have c2 : (0 : Int) ≤ (c : Int) := by omega
              have c3 : (c : Int) ≤ 9 := by omega
              have HG : Hid (9223372036854775808 < numB 10 s.data.toList) := Lib.hid (by have := numB_take 10 (by omega) s.data.toList (k + 1); rw [HN.out] at this; omega)
              go_wp2_with (go_at_call 127; refine (rdigit_any _ _).mono ?_; rw [HCc.out]; rintro e w1 ⟨rfl, rfl⟩)
              refine bodyPost_ret (v := .tuple #[.agg #[.bool false, .int .u64 0], .int .i64 1]) (by simp [results, Tryz.results108, go_sem, *]) rfl ⟨parseV_great HFm'.out HG.out, ?_⟩
              exact frA
          · obtain rfl : k = s.size := by omega
            have HV' : Hid (v = numB 10 s.data.toList) := Lib.hid (by rw [HV.out, HT2.out])
            by_cases hed : v = 9223372036854775808
            · have c1 : ((v : Int) == 9223372036854775808) = true := by simp; omega
              have HED := Lib.hid hed
              clear hed
              go_wp2
              refine bodyPost_ret (v := .tuple #[.agg #[.bool false, .int .u64 0], .int .i64 1]) (by simp [results, Tryz.results108, go_sem, *]) rfl ⟨parseV_edge HFm'.out (by rw [← HV'.out]; exact HED.out), ?_⟩
              exact frA
            · have c1 : ((v : Int) == 9223372036854775808) = false := by simp; omega
              go_wp2
              refine bodyPost_ret (v := .tuple #[.agg #[.bool false, .int .u64 v], .int .i64 0]) (by simp [results, Tryz.results108, go_sem, *]) rfl ⟨?_, ?_⟩
              · refine Eq.trans (agg_ret ?_) (parseV_plus HFm'.out (by rw [← HV'.out]; omega))
                rw [← HV'.out]
              · exact frA
theorem bitsV_form (l : List UInt8) : ∃ (f : Bool) (b : Int) (e : Int), bitsV l = .tuple #[.agg #[.bool f, .int .u64 b], .int .i64 e] := by
 unfold bitsV
 split
 · exact ⟨_, _, _, rfl⟩
 · exact ⟨_, _, _, rfl⟩
theorem rparse_F (s : ByteArray) (w : World) (hs : s.size ≤ 9223372036854775807) (h2 : 2 ≤ s.size) (hF : ((s.extract 0 2).toList == [48, 102]) = true) :
 Calls Tryz.prog 108 #[.string s] w fun e w' => e = .returned (bitsV (s.extract 2 s.size).data.toList) ∧ Fr Nil w w' := by
 have h2' : (2 : Int) ≤ (s.size : Int) := by omega
 obtain ⟨f, b, er, hb⟩ := bitsV_form (s.extract 2 s.size).data.toList
 rw [hb]
 have HB := Lib.hid hb
 clear hb
 go_enter Tryz.func108, Tryz.ntmps108
 go_wp2_with fail
 refine (rbits_any _ _ (by simp; omega)).mono ?_
 rw [HB.out]
 rintro e w1 ⟨rfl, f1⟩
 obtain ⟨_, _, _⟩ := f1.at (w.heap.size) (by first | assumption | omega | (simp; done) | (simp; omega))
 go_wp2
 refine bodyPost_ret (v := .tuple #[.agg #[.bool f, .int .u64 b], .int .i64 er]) (by simp [results, Tryz.results108, go_sem, *]) rfl ⟨rfl, ?_⟩
 exact frA
theorem empty_list {s : ByteArray} (h : s.size = 0) : s.toList = [] := by rw [Lib.toList_data]; exact List.eq_nil_of_length_eq_zero (by simpa using h)
theorem rparse_A (s : ByteArray) (w : World) (h : s.size = 0) :
 Calls Tryz.prog 108 #[.string s] w fun e w' => e = .returned (parseV false s.data.toList s.data.toList) ∧ Fr Nil w w' := by
 have e1 := empty_list h
 have e2 : s.toList.isEmpty = true := by rw [e1]; rfl
 have HF : Hid (formB s.data.toList s.data.toList = false) := Lib.hid (by unfold formB; rw [← Lib.toList_data, e1]; rfl)
 go_enter Tryz.func108, Tryz.ntmps108
 go_wp2
 refine wp_loop_rounds 1 ?_
 rw [rounds_succ]
 go_wp2
 refine bodyPost_ret (v := .tuple #[.agg #[.bool false, .int .u64 0], .int .i64 3]) (by simp [results, Tryz.results108, go_sem, *]) rfl ⟨parseV_form HF.out, ?_⟩
 exact frA
theorem rparse_B (s : ByteArray) (w : World) (h : s.size = 1) (h0 : 0 < s.size) (hM : s[0].toNat = 45) :
 Calls Tryz.prog 108 #[.string s] w fun e w' => e = .returned (parseV true (s.extract 1 s.size).data.toList s.data.toList) ∧ Fr Nil w w' := by
 obtain ⟨d, hd⟩ : ∃ d, s.extract 1 s.size = d := ⟨_, rfl⟩
 have hds : d.size = 0 := by rw [← hd]; simp; omega
 rw [hd]
 have e1 := empty_list hds
 have e2 : d.toList.isEmpty = true := by rw [e1]; rfl
 have HF : Hid (formB d.data.toList s.data.toList = false) := Lib.hid (by unfold formB; rw [← Lib.toList_data d, e1]; simp)
 have hM' : ((s[0].toNat : Int) == 45) = true := by simp; omega
 have h2' : ¬ (2 : Int) ≤ (s.size : Int) := by omega
 clear h hM
 go_enter Tryz.func108, Tryz.ntmps108
 go_wp2
 refine wp_loop_rounds 1 ?_
 rw [rounds_succ]
 go_wp2
 refine bodyPost_ret (v := .tuple #[.agg #[.bool false, .int .u64 0], .int .i64 3]) (by simp [results, Tryz.results108, go_sem, *]) rfl ⟨parseV_form HF.out, ?_⟩
 exact frA
def refV (s : List UInt8) : Value := if s.take 2 = [48, 102] then bitsV (s.drop 2) else if s.head? = some 45 then parseV true (s.drop 1) s else parseV false s s
theorem extract_list (s : ByteArray) (k : Nat) : (s.extract k s.size).data.toList = s.data.toList.drop k := by
 rw [ByteArray.data_extract, Array.toList_extract, List.extract_eq_drop_take']
 rw [List.take_of_length_le (by simp)]
theorem extract_two (s : ByteArray) : (s.extract 0 2).toList = s.data.toList.take 2 := by
 rw [Lib.toList_data, ByteArray.data_extract, Array.toList_extract, List.extract_eq_drop_take']
 simp
theorem rparse_any (s : ByteArray) (w : World) (hs : s.size ≤ 9223372036854775807) :
 Calls Tryz.prog 108 #[.string s] w fun e w' => e = .returned (refV s.data.toList) ∧ Fr Nil w w' := by
 have hlen : s.data.toList.length = s.size := by simp
 unfold refV
 rw [← extract_two s, ← extract_list s 1, ← extract_list s 2]
 rcases Nat.eq_zero_or_pos s.size with h0 | h0
 · have e : s.data.toList = [] := List.eq_nil_of_length_eq_zero (by omega)
   rw [if_neg (by rw [extract_two, e]; simp), if_neg (by rw [e]; simp)]
   exact rparse_A s w h0
 · have hh : s.data.toList.head? = some s[0] := by rw [List.head?_eq_getElem?]; exact byte_at s 0 h0
   rw [hh]
   have hm : (some s[0] = some (45 : UInt8)) ↔ s[0].toNat = 45 := by
    constructor
    · intro h; rw [Option.some.inj h]; rfl
    · intro h; exact congrArg some (UInt8.toNat_inj.1 (by have q : (45 : UInt8).toNat = 45 := rfl; omega))
   by_cases h1 : s.size = 1
   · rw [if_neg (by rw [extract_two]; intro q; have := congrArg List.length q; simp at this; omega)]
     by_cases h45 : s[0].toNat = 45
     · rw [if_pos (hm.2 h45)]; exact rparse_B s w h1 h0 h45
     · rw [if_neg (fun q => h45 (hm.1 q))]; exact rparse_C s w hs h1 h0 h45
   · cases hF : ((s.extract 0 2).toList == [48, 102])
     · rw [if_neg (by intro q; rw [q] at hF; simp at hF)]
       by_cases h45 : s[0].toNat = 45
       · rw [if_pos (hm.2 h45)]; exact rparse_D s w hs (by omega) hF h45
       · rw [if_neg (fun q => h45 (hm.1 q))]; exact rparse_E s w hs (by omega) hF h45
     · rw [if_pos (by simpa using hF)]
       exact rparse_F s w hs (by omega) hF
end Go.Proofs.YtlnmicddobgppaaGreatDoor
