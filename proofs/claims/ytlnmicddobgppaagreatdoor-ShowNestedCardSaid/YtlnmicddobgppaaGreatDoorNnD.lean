/-
  Contracts of the document's answer for layer 7: what bytes are; a run; its kind. No conditions but sizes that memory bears. Contracts of the document's answer for layer 7: a run's kind; the longest sign; what is passed over. No conditions but sizes that memory bears. Contracts of the document's answer for layer 7: the longest sign that stands at a place. No conditions but sizes that memory bears. Contracts of the document's answer for layer 7: what is passed over. No conditions but sizes that memory bears. Contracts of the document's answer for layer 7: the token that stands at a place. No conditions but sizes that memory bears.
-/
import Derived.Test.YtlnmicddobgppaaGreatDoorNnC
import Derived.Test.YtlnmicddobgppaaGreatDoorNnA
namespace Go.Proofs.YtlnmicddobgppaaGreatDoor
set_option maxRecDepth 100000
set_option linter.unusedSimpArgs false
set_option linter.unusedVariables false
open Go.RowKit
theorem smallB (c : UInt8) : (decide ((97 : Int) ≤ (c.toNat : Int)) && decide ((c.toNat : Int) ≤ 122)) = smallC c := by
 unfold smallC; rw [Bool.eq_iff_iff]; simp [UInt8.le_iff_toNat_le]; omega
theorem capB (c : UInt8) : (decide ((65 : Int) ≤ (c.toNat : Int)) && decide ((c.toNat : Int) ≤ 90)) = capC c := by
 unfold capC; rw [Bool.eq_iff_iff]; simp [UInt8.le_iff_toNat_le]; omega
theorem digB (c : UInt8) : (decide ((48 : Int) ≤ (c.toNat : Int)) && decide ((c.toNat : Int) ≤ 57)) = digC c := by
 unfold digC; rw [Bool.eq_iff_iff]; simp [UInt8.le_iff_toNat_le]; omega
theorem small_any (c : UInt8) (w : World) : Calls Tryz.prog 77 #[.int .u8 (c.toNat : Int)] w fun e w' => e = .returned (.bool (smallC c)) ∧ w = w' := by
 rw [← smallB]
 generalize (c.toNat : Int) = n
 go_enter Tryz.func77, Tryz.ntmps77
 go_wp2
 all_goals
  go_ret
  exact ⟨ret1_bool (by simp_all <;> (intros; omega)), rfl⟩
theorem cap_any (c : UInt8) (w : World) : Calls Tryz.prog 78 #[.int .u8 (c.toNat : Int)] w fun e w' => e = .returned (.bool (capC c)) ∧ w = w' := by
 rw [← capB]
 generalize (c.toNat : Int) = n
 go_enter Tryz.func78, Tryz.ntmps78
 go_wp2
 all_goals
  go_ret
  exact ⟨ret1_bool (by simp_all <;> (intros; omega)), rfl⟩
theorem dig_any (c : UInt8) (w : World) : Calls Tryz.prog 81 #[.int .u8 (c.toNat : Int)] w fun e w' => e = .returned (.bool (digC c)) ∧ w = w' := by
 rw [← digB]
 generalize (c.toNat : Int) = n
 go_enter Tryz.func81, Tryz.ntmps81
 go_wp2
 all_goals
  go_ret
  exact ⟨ret1_bool (by simp_all <;> (intros; omega)), rfl⟩
theorem bytes_at (s : ByteArray) (k : Nat) (h : k < s.size) : s.data.toList[k]? = some s[k] := by
 rw [List.getElem?_eq_getElem (by simpa using h)]; rfl
theorem run_at (s : ByteArray) (at_ k : Nat) (h : k < (runF (s.data.toList.drop at_)).length) : ∃ h : at_ + k < s.size, wordC s[at_ + k] = true := by
 have hp := runF_pre (s.data.toList.drop at_)
 have hl := hp.length_le
 rw [List.length_drop] at hl
 have hsz : s.data.toList.length = s.size := by simp
 have hk : at_ + k < s.size := by omega
 refine ⟨hk, ?_⟩
 have h1 : (runF (s.data.toList.drop at_))[k] = s[at_ + k] := by
  have h2 := hp.getElem h
  rw [h2, List.getElem_drop]
  rfl
 rw [← h1]
 exact List.all_eq_true.1 (List.all_takeWhile (p := wordC) (l := s.data.toList.drop at_)) _ (List.getElem_mem h)
theorem run_end (s : ByteArray) (at_ : Nat) (h : at_ + (runF (s.data.toList.drop at_)).length < s.size) : wordC s[at_ + (runF (s.data.toList.drop at_)).length] = false := by
 have key : ∀ l : List UInt8, ∀ h : (runF l).length < l.length, wordC (l[(runF l).length]) = false := by
  intro l
  induction l with
  | nil => intro h; simp at h
  | cons c r ih =>
   intro h
   unfold runF at *
   by_cases hc : wordC c = true
   · simp only [List.takeWhile_cons, hc, if_true, List.length_cons] at h ⊢
     simp only [List.getElem_cons_succ]
     exact ih (by omega)
   · simp [List.takeWhile_cons, hc]
 have hsz : s.data.toList.length = s.size := by simp
 have h2 := key (s.data.toList.drop at_) (by rw [List.length_drop]; omega)
 rw [List.getElem_drop] at h2
 exact h2
theorem run_le (s : ByteArray) (at_ : Nat) : (runF (s.data.toList.drop at_)).length ≤ s.size - at_ := by
 have := (runF_pre (s.data.toList.drop at_)).length_le
 rw [List.length_drop] at this
 simpa using this
theorem word_cases {c : UInt8} (h : wordC c = true) : smallC c = true ∨ (smallC c = false ∧ capC c = true) ∨ (smallC c = false ∧ capC c = false ∧ digC c = true) ∨ (smallC c = false ∧ capC c = false ∧ digC c = false ∧ (((c.toNat : Int) == 95) = true)) := by
 unfold wordC at h
 cases h1 : smallC c <;> cases h2 : capC c <;> cases h3 : digC c <;> simp_all
theorem word_not {c : UInt8} (h : wordC c = false) : smallC c = false ∧ capC c = false ∧ digC c = false ∧ (((c.toNat : Int) == 95) = false) := by
 unfold wordC at h
 simp only [Bool.or_eq_false_iff] at h
 obtain ⟨⟨⟨h1, h2⟩, h3⟩, h4⟩ := h
 refine ⟨h1, h2, h3, ?_⟩
 simp at h4 ⊢
 intro e
 exact h4 (UInt8.toNat_inj.1 (by have : (95 : UInt8).toNat = 95 := rfl; omega))
set_option maxHeartbeats 1000000 in
theorem run_any (s : ByteArray) (at_ : Nat) (w : World) (hs : s.size ≤ 1000000) (hat : at_ ≤ s.size) :
 Calls Tryz.prog 79 #[.string s, .int .i64 at_] w fun e w' => e = .returned (.int .i64 (runF (s.data.toList.drop at_)).length) ∧ w = w' := by
 have hle := run_le s at_
 obtain ⟨N, hN⟩ : ∃ N, (runF (s.data.toList.drop at_)).length = N := ⟨_, rfl⟩
 have hrun : ∀ k, k < N → ∃ h : at_ + k < s.size, wordC s[at_ + k] = true := fun k h => run_at s at_ k (by rw [hN]; exact h)
 have hend : ∀ h : at_ + N < s.size, wordC s[at_ + N] = false := by subst hN; exact fun h => run_end s at_ h
 rw [hN] at hle ⊢
 have HR := Lib.hid hrun
 have HE := Lib.hid hend
 clear hN hrun hend
 go_enter Tryz.func79, Tryz.ntmps79
 go_wp2_with fail
 go_loop [5] (fun i => ∃ k : Nat, k ≤ N ∧ i = .int .i64 k) (fun i => N - (intOf i).toNat)
 case atStart => exact ⟨0, Nat.zero_le _, rfl⟩
 case round =>
  obtain ⟨k, hk, rfl⟩ := hrel
  by_cases hlt : k < N
  · obtain ⟨h1, h2⟩ := HR.out k hlt
    have b1 : (at_ : Int) + (k : Int) < (s.size : Int) := by omega
    have b0 : (0 : Int) ≤ (at_ : Int) + (k : Int) := by omega
    rcases word_cases h2 with q | ⟨q1, q⟩ | ⟨q1, q2, q⟩ | ⟨q1, q2, q3, q⟩
    all_goals
     clear h2
     go_wp2_with (first
      | (go_at_call 77; refine (small_any _ _).mono ?_; rintro e w1 ⟨rfl, rfl⟩)
      | (go_at_call 78; refine (cap_any _ _).mono ?_; rintro e w1 ⟨rfl, rfl⟩)
      | (go_at_call 81; refine (dig_any _ _).mono ?_; rintro e w1 ⟨rfl, rfl⟩))
     go_round
     case rel => exact ⟨k + 1, by omega, by go_num⟩
     case measure => simp [intOf]; omega
  · obtain rfl : k = N := by omega
    by_cases hz : at_ + k < s.size
    · have b1 : (at_ : Int) + (k : Int) < (s.size : Int) := by omega
      have b0 : (0 : Int) ≤ (at_ : Int) + (k : Int) := by omega
      obtain ⟨q1, q2, q3, q4⟩ := word_not (HE.out hz)
      go_wp2_with (first
       | (go_at_call 77; refine (small_any _ _).mono ?_; rintro e w1 ⟨rfl, rfl⟩)
       | (go_at_call 78; refine (cap_any _ _).mono ?_; rintro e w1 ⟨rfl, rfl⟩)
       | (go_at_call 81; refine (dig_any _ _).mono ?_; rintro e w1 ⟨rfl, rfl⟩))
      go_ret
      exact ⟨rfl, rfl⟩
    · have b1 : ¬ (at_ : Int) + (k : Int) < (s.size : Int) := by omega
      go_wp2
      go_ret
      exact ⟨rfl, rfl⟩
theorem bytes_eq (s t : ByteArray) (h : s.data.toList = t.data.toList) : s = t := by
 obtain ⟨a⟩ := s
 obtain ⟨b⟩ := t
 congr 1
 exact Array.toList_inj.1 h
set_option maxHeartbeats 1000000 in
theorem kind_any (s : ByteArray) (w : World) (hs : 0 < s.size) :
 Calls Tryz.prog 80 #[.string s] w fun e w' => e = .returned (.int .i64 (kindF s.data.toList)) ∧ w = w' := by
 by_cases h1 : s.data.toList ∈ wordsL
 · have hk : kindF s.data.toList = 5 := by unfold kindF; rw [if_pos h1]
   rw [hk]
   simp only [wordsL, List.mem_cons, List.not_mem_nil, or_false] at h1
   rcases h1 with h | h | h | h | h
   · obtain rfl := bytes_eq s ⟨#[108, 101, 116]⟩ h
     go_enter Tryz.func80, Tryz.ntmps80
     go_wp2
     go_ret
     exact ⟨rfl, rfl⟩
   · obtain rfl := bytes_eq s ⟨#[105, 110]⟩ h
     go_enter Tryz.func80, Tryz.ntmps80
     go_wp2
     go_ret
     exact ⟨rfl, rfl⟩
   · obtain rfl := bytes_eq s ⟨#[99, 97, 115, 101]⟩ h
     go_enter Tryz.func80, Tryz.ntmps80
     go_wp2
     go_ret
     exact ⟨rfl, rfl⟩
   · obtain rfl := bytes_eq s ⟨#[111, 102]⟩ h
     go_enter Tryz.func80, Tryz.ntmps80
     go_wp2
     go_ret
     exact ⟨rfl, rfl⟩
   · obtain rfl := bytes_eq s ⟨#[100, 97, 116, 97]⟩ h
     go_enter Tryz.func80, Tryz.ntmps80
     go_wp2
     go_ret
     exact ⟨rfl, rfl⟩
 · by_cases h2 : s.data.toList ∈ backsL
   · have hk : kindF s.data.toList = 7 := by unfold kindF; rw [if_neg h1, if_pos h2]
     rw [hk]
     clear h1
     simp only [backsL, List.mem_cons, List.not_mem_nil, or_false] at h2
     rcases h2 with h | h | h | h | h
     · obtain rfl := bytes_eq s ⟨#[119, 101, 97, 107]⟩ h
       go_enter Tryz.func80, Tryz.ntmps80
       go_wp2
       go_ret
       exact ⟨rfl, rfl⟩
     · obtain rfl := bytes_eq s ⟨#[100, 101, 114, 101, 102]⟩ h
       go_enter Tryz.func80, Tryz.ntmps80
       go_wp2
       go_ret
       exact ⟨rfl, rfl⟩
     · obtain rfl := bytes_eq s ⟨#[115, 101, 113]⟩ h
       go_enter Tryz.func80, Tryz.ntmps80
       go_wp2
       go_ret
       exact ⟨rfl, rfl⟩
     · obtain rfl := bytes_eq s ⟨#[102, 108, 111, 97, 116]⟩ h
       go_enter Tryz.func80, Tryz.ntmps80
       go_wp2
       go_ret
       exact ⟨rfl, rfl⟩
     · obtain rfl := bytes_eq s ⟨#[116, 114, 117, 110, 99]⟩ h
       go_enter Tryz.func80, Tryz.ntmps80
       go_wp2
       go_ret
       exact ⟨rfl, rfl⟩
   · have hk : kindF s.data.toList = if capC s[0] then 2 else 1 := by
      unfold kindF
      rw [if_neg h1, if_neg h2]
      have e : s.data.toList.head? = some s[0] := by rw [List.head?_eq_getElem?]; exact bytes_at s 0 hs
      rw [e]
      rfl
     rw [hk]
     simp only [wordsL, backsL, List.mem_cons, List.not_mem_nil, or_false, not_or] at h1 h2
     obtain ⟨a1, a2, a3, a4, a5⟩ := h1
     obtain ⟨b1, b2, b3, b4, b5⟩ := h2
     have ta1 : (s.toList == [108, 101, 116]) = false := by rw [Lib.toList_data]; simpa using a1
     have ta2 : (s.toList == [105, 110]) = false := by rw [Lib.toList_data]; simpa using a2
     have ta3 : (s.toList == [99, 97, 115, 101]) = false := by rw [Lib.toList_data]; simpa using a3
     have ta4 : (s.toList == [111, 102]) = false := by rw [Lib.toList_data]; simpa using a4
     have ta5 : (s.toList == [100, 97, 116, 97]) = false := by rw [Lib.toList_data]; simpa using a5
     have tb1 : (s.toList == [119, 101, 97, 107]) = false := by rw [Lib.toList_data]; simpa using b1
     have tb2 : (s.toList == [100, 101, 114, 101, 102]) = false := by rw [Lib.toList_data]; simpa using b2
     have tb3 : (s.toList == [115, 101, 113]) = false := by rw [Lib.toList_data]; simpa using b3
     have tb4 : (s.toList == [102, 108, 111, 97, 116]) = false := by rw [Lib.toList_data]; simpa using b4
     have tb5 : (s.toList == [116, 114, 117, 110, 99]) = false := by rw [Lib.toList_data]; simpa using b5
     clear a1 a2 a3 a4 a5 b1 b2 b3 b4 b5 hk
     have i0 : (0 : Int) < (s.size : Int) := by omega
     go_enter Tryz.func80, Tryz.ntmps80
     cases hc : capC s[0]
     all_goals
      go_wp2_with (go_at_call 78; refine (cap_any _ _).mono ?_; rw [hc]; rintro e w1 ⟨rfl, rfl⟩)
      go_ret
      exact ⟨rfl, rfl⟩
def strs (l : List (List UInt8)) : Array Value := (l.map fun c => Value.string ⟨c.toArray⟩).toArray
theorem strs_at (l : List (List UInt8)) (k : Nat) (h : k < l.length) : (strs l)[k]? = some (.string ⟨l[k].toArray⟩) := by
 simp [strs, h]
theorem ops_any (w : World) : Calls Tryz.prog 84 #[] w fun e w' => ∃ b, e = .returned (.slice (some ⟨b, 0, none⟩) 13 13) ∧ Blk w' b (strs opsL) 9 ∧ Fr Nil w w' := by
 go_enter Tryz.func84, Tryz.ntmps84
 go_wp2
 go_ret
 exact ⟨_, rfl, Blk.new w _ _, by exact frA⟩
theorem puncts_any (w : World) : Calls Tryz.prog 85 #[] w fun e w' => ∃ b, e = .returned (.slice (some ⟨b, 0, none⟩) 8 8) ∧ Blk w' b (strs punctsL) 9 ∧ Fr Nil w w' := by
 go_enter Tryz.func85, Tryz.ntmps85
 go_wp2
 go_ret
 exact ⟨_, rfl, Blk.new w _ _, by exact frA⟩
theorem stepL_no {l best c : List UInt8} (h : c.isPrefixOf l = false) : stepL l best c = best := by unfold stepL; rw [h]; rfl
theorem stepL_short {l best c : List UInt8} (h : ¬ best.length < c.length) : stepL l best c = best := by unfold stepL; rw [if_neg (by simp [h])]
theorem stepL_yes {l best c : List UInt8} (h : c.isPrefixOf l = true) (g : best.length < c.length) : stepL l best c = c := by unfold stepL; rw [if_pos (by simp [h, g])]
theorem fold_snoc (l : List UInt8) (cs : List (List UInt8)) (i : Nat) (h : i < cs.length) : (cs.take (i + 1)).foldl (stepL l) [] = stepL l ((cs.take i).foldl (stepL l) []) cs[i] := by
 rw [List.take_succ_eq_append_getElem h, List.foldl_append]; rfl
theorem cut_pre (s : ByteArray) (at_ : Nat) (c : List UInt8) (h : at_ + c.length ≤ s.size) : c.isPrefixOf (s.data.toList.drop at_) = ((s.extract at_ (at_ + c.length)).toList == c) := by
 have e : (s.extract at_ (at_ + c.length)).toList = (s.data.toList.drop at_).take c.length := by
  rw [Lib.toList_data]
  simp [ByteArray.data_extract]
 rw [e, Bool.eq_iff_iff, List.isPrefixOf_iff_prefix, beq_iff_eq, List.prefix_iff_eq_take]
 exact eq_comm
theorem cut_out (s : ByteArray) (at_ : Nat) (c : List UInt8) (hp : 0 < c.length) (h : ¬ at_ + c.length ≤ s.size) : c.isPrefixOf (s.data.toList.drop at_) = false := by
 rw [Bool.eq_false_iff]
 intro q
 have := (List.isPrefixOf_iff_prefix.1 q).length_le
 rw [List.length_drop] at this
 have hl : s.data.toList.length = s.size := by simp
 omega
set_option maxHeartbeats 1000000 in
theorem longest_any (s : ByteArray) (at_ b : Nat) (cs : List (List UInt8)) (w : World) (hs : s.size ≤ 1000000) (hat : at_ ≤ s.size) (hcs : cs.length ≤ 100) (hc : ∀ c ∈ cs, 0 < c.length ∧ c.length ≤ 10) (hb : Blk w b (strs cs) 9) :
 Calls Tryz.prog 83 #[.string s, .int .i64 at_, .slice (some ⟨b, 0, none⟩) cs.length cs.length] w fun e w' => e = .returned (.string ⟨(longF (s.data.toList.drop at_) cs).toArray⟩) ∧ Fr Nil w w' := by
 have HCL := Lib.hid hcs
 go_enter Tryz.func83, Tryz.ntmps83
 go_wp2_with fail
 go_loopw [7, 8] (fun v i wr => ∃ (k q : Nat) (B : ByteArray), k ≤ cs.length ∧ i = .int .i64 k ∧ v = .string B ∧ B = ⟨((cs.take k).foldl (stepL (s.data.toList.drop at_)) []).toArray⟩ ∧ wr = w.drewN q) (fun _ i _ => cs.length - (intOf i).toNat)
 case atStart => exact ⟨0, 0, _, Nat.zero_le _, rfl, rfl, rfl, rfl⟩
 case round =>
  obtain ⟨k, q, B, hk, rfl, rfl, hB, rfl⟩ := hrel
  have HB := Lib.hid hB
  clear hB
  by_cases hlt : k < cs.length
  · have hd := (hb.cell k).trans (strs_at cs k hlt)
    have hstep := fold_snoc (s.data.toList.drop at_) cs k hlt
    obtain ⟨hc0, hc1⟩ := hc _ (List.getElem_mem hlt)
    have hcut := cut_pre s at_ cs[k]
    have hout := cut_out s at_ cs[k] hc0
    obtain ⟨c, hcc⟩ : ∃ c, cs[k] = c := ⟨_, rfl⟩
    rw [hcc] at hd hstep hc0 hc1 hcut hout
    obtain ⟨C, hC⟩ : ∃ C : ByteArray, C = ⟨c.toArray⟩ := ⟨_, rfl⟩
    rw [← hC] at hd
    have hCs : c.length = C.size := by rw [hC]; simp [ByteArray.size]
    have hCl : C.toList = c := by rw [hC, Lib.toList_data]
    have hbs : (((cs.take k).foldl (stepL (s.data.toList.drop at_)) []).length) = B.size := by rw [HB.out]; simp [ByteArray.size]
    have hBl : B.size ≤ 1000000 := by
     rw [← hbs]
     have := (long_pre (s.data.toList.drop at_) (cs.take k) [] List.nil_prefix).length_le
     rw [List.length_drop] at this
     have hl : s.data.toList.length = s.size := by simp
     omega
    have HS := Lib.hid hstep
    have HCC := Lib.hid (And.intro hcc (And.intro hCs (And.intro hCl (And.intro hbs hC))))
    rw [hCs] at hc0 hc1 hcut hout
    clear hcc hstep hC hbs hCs hCl
    have b1 : (0 : Int) ≤ (k : Int) := by omega
    have b2 : (k : Int) < (cs.length : Int) := by omega
    have b3 : (0 : Int) ≤ (at_ : Int) := by omega
    have w1 : IntKind.i64.wrap ((at_ : Int) + (C.size : Int)) = (at_ : Int) + (C.size : Int) := by rw [IntKind.wrap_i64]; omega
    by_cases hA : at_ + C.size ≤ s.size
    · have hcut' := hcut hA
      clear hcut hout
      have hA1 : decide ((at_ : Int) + (C.size : Int) ≤ (s.size : Int)) = true := by simp; omega
      by_cases hP : c.isPrefixOf (s.data.toList.drop at_) = true
      · rw [hP] at hcut'
        have hT : ((s.extract at_ (at_ + C.size)).toList == C.toList) = true := by rw [HCC.out.2.2.1]; exact hcut'.symm
        by_cases hG : B.size < C.size
        · have HN := Lib.hid (stepL_yes (best := (cs.take k).foldl (stepL (s.data.toList.drop at_)) []) hP (by rw [HCC.out.2.2.2.1, HCC.out.2.1]; exact hG))
          have hG1 : decide ((B.size : Int) < (C.size : Int)) = true := by simp; omega
          clear hcut' hP
          go_wp2
          go_quiet (fail)
          go_wp2
          go_roundw
          case rel => exact ⟨k + 1, _, C, by omega, by go_num, rfl, by rw [HS.out, HN.out]; exact HCC.out.2.2.2.2, rfl⟩
          case measure => simp [intOf]; omega
        · have HN := Lib.hid (stepL_short (l := s.data.toList.drop at_) (c := c) (best := (cs.take k).foldl (stepL (s.data.toList.drop at_)) []) (by rw [HCC.out.2.2.2.1, HCC.out.2.1]; exact hG))
          have hG1 : decide ((B.size : Int) < (C.size : Int)) = false := by simp; omega
          clear hcut' hP
          go_wp2
          go_quiet (fail)
          go_wp2
          go_roundw
          case rel => exact ⟨k + 1, _, B, by omega, by go_num, rfl, by rw [HS.out, HN.out]; exact HB.out, rfl⟩
          case measure => simp [intOf]; omega
      · rw [Bool.not_eq_true] at hP
        have HN := Lib.hid (stepL_no (best := (cs.take k).foldl (stepL (s.data.toList.drop at_)) []) hP)
        rw [hP] at hcut'
        have hT : ((s.extract at_ (at_ + C.size)).toList == C.toList) = false := by rw [HCC.out.2.2.1]; exact hcut'.symm
        clear hcut' hP
        go_wp2
        go_quiet (fail)
        go_wp2
        go_roundw
        case rel => exact ⟨k + 1, _, B, by omega, by go_num, rfl, by rw [HS.out, HN.out]; exact HB.out, rfl⟩
        case measure => simp [intOf]; omega
    · have hA1 : decide ((at_ : Int) + (C.size : Int) ≤ (s.size : Int)) = false := by simp; omega
      have HN := Lib.hid (stepL_no (best := (cs.take k).foldl (stepL (s.data.toList.drop at_)) []) (hout (by omega)))
      clear hcut hout
      go_wp2
      go_quiet (fail)
      go_wp2
      go_roundw
      case rel => exact ⟨k + 1, _, B, by omega, by go_num, rfl, by rw [HS.out, HN.out]; exact HB.out, rfl⟩
      case measure => simp [intOf]; omega
  · obtain rfl : k = cs.length := by omega
    go_wp2
    go_ret
    refine ⟨?_, by exact frA⟩
    have e := HB.out
    rw [List.take_length] at e
    rw [e]; rfl
theorem drop_cons (s : ByteArray) (a : Nat) (h : a < s.size) : s.data.toList.drop a = s[a] :: s.data.toList.drop (a + 1) := by
 rw [List.drop_eq_getElem_cons (by simpa using h)]; rfl
theorem drop_end (s : ByteArray) (a : Nat) (h : s.size ≤ a) : s.data.toList.drop a = [] := List.drop_eq_nil_of_le (by simpa using h)
theorem u8_of {c d : UInt8} {n : Nat} (h : c.toNat = n) (hd : d.toNat = n) : c = d := UInt8.toNat_inj.1 (h.trans hd.symm)
theorem skip_remark (s : ByteArray) (a line : Nat) (h : a < s.size) (g : s[a].toNat = 45) (h1 : a + 1 < s.size) (g1 : s[a + 1].toNat = 45) : skipF false (s.data.toList.drop a) line = skipF true (s.data.toList.drop a) line := by
 rw [drop_cons s a h]
 have e : s[a] = 45 := u8_of g rfl
 have e1 : s[a + 1] = 45 := u8_of g1 rfl
 rw [e]
 unfold skipF
 rw [if_pos ⟨rfl, by rw [drop_cons s (a + 1) h1, e1]; rfl⟩, if_neg (by decide)]
theorem skip_in (s : ByteArray) (a line : Nat) (h : a < s.size) (g : s[a].toNat ≠ 10) : skipF true (s.data.toList.drop a) line = skipF true (s.data.toList.drop (a + 1)) line := by
 rw [drop_cons s a h]
 conv => lhs; unfold skipF
 rw [if_neg (fun e => g (by rw [e]; rfl))]
theorem skip_out (s : ByteArray) (a line : Nat) (h : a < s.size) (g : s[a].toNat = 10) : skipF true (s.data.toList.drop a) line = skipF false (s.data.toList.drop a) line := by
 rw [drop_cons s a h]
 have e : s[a] = 10 := u8_of g rfl
 rw [e]
 unfold skipF
 rw [if_pos rfl, if_neg (fun q => absurd q.1 (by decide)), if_pos rfl]
theorem skip_over (s : ByteArray) (a line : Nat) (h : s.size ≤ a) : skipF true (s.data.toList.drop a) line = skipF false (s.data.toList.drop a) line := by
 rw [drop_end s a h]; rfl
theorem skip_line (s : ByteArray) (a line : Nat) (h : a < s.size) (g : s[a].toNat = 10) : skipF false (s.data.toList.drop a) line = skipF false (s.data.toList.drop (a + 1)) (line + 1) := by
 rw [drop_cons s a h]
 have e : s[a] = 10 := u8_of g rfl
 rw [e]
 conv => lhs; unfold skipF
 rw [if_neg (fun q => absurd q.1 (by decide)), if_pos rfl]
theorem skip_blank (s : ByteArray) (a line : Nat) (h : a < s.size) (g : s[a].toNat = 9 ∨ s[a].toNat = 13 ∨ s[a].toNat = 32) : skipF false (s.data.toList.drop a) line = skipF false (s.data.toList.drop (a + 1)) line := by
 rw [drop_cons s a h]
 have e : s[a] = 9 ∨ s[a] = 13 ∨ s[a] = 32 := by
  rcases g with g | g | g
  · exact .inl (u8_of g rfl)
  · exact .inr (.inl (u8_of g rfl))
  · exact .inr (.inr (u8_of g rfl))
 conv => lhs; unfold skipF
 rcases e with e | e | e <;> rw [e, if_neg (fun q => absurd q.1 (by decide)), if_neg (by decide), if_pos (by simp)]
theorem skip_stop (s : ByteArray) (a line : Nat) (h : a < s.size) (g : s[a].toNat ≠ 9 ∧ s[a].toNat ≠ 10 ∧ s[a].toNat ≠ 13 ∧ s[a].toNat ≠ 32) (g1 : s[a].toNat ≠ 45 ∨ s.size ≤ a + 1 ∨ ∃ h : a + 1 < s.size, s[a + 1].toNat ≠ 45) :
 skipF false (s.data.toList.drop a) line = (s.data.toList.drop a, line) := by
 rw [drop_cons s a h]
 unfold skipF
 rw [if_neg, if_neg (fun e => g.2.1 (by rw [e]; rfl)), if_neg]
 · rintro (e | e | e)
   · exact g.1 (by rw [e]; rfl)
   · exact g.2.2.1 (by rw [e]; rfl)
   · exact g.2.2.2 (by rw [e]; rfl)
 · rintro ⟨e1, e2⟩
   rcases g1 with g1 | g1 | ⟨h1, g1⟩
   · exact g1 (by rw [e1]; rfl)
   · rw [drop_end s _ g1] at e2; cases e2
   · rw [drop_cons s _ h1] at e2
     simp at e2
     exact g1 (by rw [e2]; rfl)
theorem skip_nil (s : ByteArray) (a line : Nat) (h : s.size ≤ a) : skipF false (s.data.toList.drop a) line = (s.data.toList.drop a, line) := by
 rw [drop_end s a h]; rfl
def skipAt (s : ByteArray) (T : List UInt8 × Nat) : Value := .tuple #[.int .i64 ((s.size - T.1.length : Nat) : Int), .int .i64 (T.2 : Int)]
theorem skipAt_eq (s : ByteArray) (T : List UInt8 × Nat) (a line : Nat) (ha : a ≤ s.size) (h : T = (s.data.toList.drop a, line)) : Ending.returned (.tuple #[.int .i64 (a : Int), .int .i64 (line : Int)]) = .returned (skipAt s T) := by
 rw [h]
 unfold skipAt
 have e : s.size - (s.data.toList.drop a).length = a := by
  rw [List.length_drop]
  have : s.data.toList.length = s.size := by simp
  omega
 simp only [e]
set_option maxHeartbeats 2000000 in
theorem skip_any (s : ByteArray) (at_ line : Nat) (w : World) (hs : s.size ≤ 1000000) (hat : at_ ≤ s.size) (hl : line + s.size ≤ 10000000) :
 Calls Tryz.prog 42 #[.string s, .int .i64 at_, .int .i64 line] w fun e w' => e = .returned (skipAt s (skipF false (s.data.toList.drop at_) line)) ∧ w = w' := by
 obtain ⟨T, hT⟩ : ∃ T, skipF false (s.data.toList.drop at_) line = T := ⟨_, rfl⟩
 rw [hT]
 have HT := Lib.hid hT
 clear hT
 go_enter Tryz.func42, Tryz.ntmps42
 go_wp2_with fail
 go_loop [1, 2] (fun i n => ∃ a ln : Nat, a ≤ s.size ∧ ln ≤ line + a ∧ i = .int .i64 a ∧ n = .int .i64 ln ∧ Hid (skipF false (s.data.toList.drop a) ln = T)) (fun i _ => s.size - (intOf i).toNat)
 case atStart => exact ⟨at_, line, hat, by omega, rfl, rfl, HT⟩
 case round =>
  obtain ⟨a, ln, ha, hln, rfl, rfl, HR⟩ := hrel
  clear HT
  by_cases hz : a < s.size
  · have i0 : (0 : Int) ≤ (a : Int) := by omega
    have i1 : (a : Int) < (s.size : Int) := by omega
    obtain ⟨n, hn⟩ : ∃ n, s[a].toNat = n := ⟨_, rfl⟩
    have HN := Lib.hid hn
    by_cases h45 : n = 45
    · have c0 : ((s[a].toNat : Int) == 45) = true := by rw [hn, h45]; rfl
      have c1 : ((s[a].toNat : Int) != 9) = true := by rw [hn, h45]; rfl
      have c2 : ((s[a].toNat : Int) != 10) = true := by rw [hn, h45]; rfl
      have c3 : ((s[a].toNat : Int) != 13) = true := by rw [hn, h45]; rfl
      have c4 : ((s[a].toNat : Int) != 32) = true := by rw [hn, h45]; rfl
      by_cases hz1 : a + 1 < s.size
      · have i2 : (a : Int) + 1 < (s.size : Int) := by omega
        by_cases h1 : s[a + 1].toNat = 45
        · have c5 : ((s[a + 1].toNat : Int) == 45) = true := by rw [h1]; rfl
          have HM := Lib.hid (skip_remark s a ln hz (by omega) hz1 h1)
          clear hn h1 c1 c2 c3 c4
          go_wp2_with fail
          go_loop [1] (fun i => ∃ d : Nat, a ≤ d ∧ d ≤ s.size ∧ i = .int .i64 d ∧ Hid (skipF true (s.data.toList.drop d) ln = T)) (fun i => s.size - (intOf i).toNat)
          case atStart => exact ⟨a, Nat.le_refl _, ha, rfl, Lib.hid (by rw [← HR.out, HM.out])⟩
          case round =>
           obtain ⟨d, had, hd, rfl, HD⟩ := hrel
           have j0 : (0 : Int) ≤ (d : Int) := by omega
           by_cases hd1 : d < s.size
           · have j1 : (d : Int) < (s.size : Int) := by omega
             by_cases h10 : s[d].toNat = 10
             · have e1 : ((s[d].toNat : Int) != 10) = false := by rw [h10]; rfl
               have HS := Lib.hid (skip_out s d ln hd1 h10)
               have hlt : a < d := by
                rcases Nat.lt_or_ge a d with q | q
                · exact q
                · obtain rfl : a = d := by omega
                  have := HN.out
                  omega
               clear h10
               go_wp2
               go_round
               case rel => exact ⟨d, ln, hd, by omega, rfl, rfl, Lib.hid (by rw [← HS.out]; exact HD.out)⟩
               case measure => simp [intOf]; omega
             · have e1 : ((s[d].toNat : Int) != 10) = true := by simp; omega
               have HS := Lib.hid (skip_in s d ln hd1 h10)
               clear h10
               go_wp2
               go_round
               case rel => exact ⟨d + 1, by omega, by omega, by go_num, Lib.hid (by rw [← HS.out]; exact HD.out)⟩
               case measure => simp [intOf]; omega
           · have HS := Lib.hid (skip_over s d ln (by omega))
             go_wp2
             go_round
             case rel => exact ⟨d, ln, hd, by omega, rfl, rfl, Lib.hid (by rw [← HS.out]; exact HD.out)⟩
             case measure => simp [intOf]; omega
        · have c5 : ((s[a + 1].toNat : Int) == 45) = false := by simp; omega
          clear hn
          go_wp2
          go_ret2
          exact ⟨skipAt_eq s T a ln ha (by rw [← HR.out]; exact skip_stop s a ln hz (by have := HN.out; omega) (.inr (.inr ⟨hz1, h1⟩))), rfl⟩
      · have i2 : ¬ (a : Int) + 1 < (s.size : Int) := by omega
        clear hn
        go_wp2
        go_ret2
        exact ⟨skipAt_eq s T a ln ha (by rw [← HR.out]; exact skip_stop s a ln hz (by have := HN.out; omega) (.inr (.inl (by omega)))), rfl⟩
    · have c0 : ((s[a].toNat : Int) == 45) = false := by rw [hn]; simp; omega
      by_cases h10 : n = 10
      · have c1 : ((s[a].toNat : Int) != 9) = true := by rw [hn, h10]; rfl
        have c2 : ((s[a].toNat : Int) != 10) = false := by rw [hn, h10]; rfl
        have c3 : ((s[a].toNat : Int) == 10) = true := by rw [hn, h10]; rfl
        have HS := Lib.hid (skip_line s a ln hz (by omega))
        clear hn
        go_wp2
        go_round
        case rel => exact ⟨a + 1, ln + 1, by omega, by omega, by go_num, by go_num, Lib.hid (by rw [← HS.out]; exact HR.out)⟩
        case measure => simp [intOf]; omega
      · have c3 : ((s[a].toNat : Int) == 10) = false := by rw [hn]; simp; omega
        have c2 : ((s[a].toNat : Int) != 10) = true := by rw [hn]; simp; omega
        by_cases hb : n = 9 ∨ n = 13 ∨ n = 32
        · have HS := Lib.hid (skip_blank s a ln hz (by omega))
          rcases hb with hb | hb | hb
          · have c1 : ((s[a].toNat : Int) != 9) = false := by rw [hn, hb]; rfl
            clear hn hb
            go_wp2
            go_round
            case rel => exact ⟨a + 1, ln, by omega, by omega, by go_num, rfl, Lib.hid (by rw [← HS.out]; exact HR.out)⟩
            case measure => simp [intOf]; omega
          · have c1 : ((s[a].toNat : Int) != 9) = true := by rw [hn, hb]; rfl
            have c4 : ((s[a].toNat : Int) != 13) = false := by rw [hn, hb]; rfl
            clear hn hb
            go_wp2
            go_round
            case rel => exact ⟨a + 1, ln, by omega, by omega, by go_num, rfl, Lib.hid (by rw [← HS.out]; exact HR.out)⟩
            case measure => simp [intOf]; omega
          · have c1 : ((s[a].toNat : Int) != 9) = true := by rw [hn, hb]; rfl
            have c4 : ((s[a].toNat : Int) != 13) = true := by rw [hn, hb]; rfl
            have c5 : ((s[a].toNat : Int) != 32) = false := by rw [hn, hb]; rfl
            clear hn hb
            go_wp2
            go_round
            case rel => exact ⟨a + 1, ln, by omega, by omega, by go_num, rfl, Lib.hid (by rw [← HS.out]; exact HR.out)⟩
            case measure => simp [intOf]; omega
        · have c1 : ((s[a].toNat : Int) != 9) = true := by rw [hn]; simp; omega
          have c4 : ((s[a].toNat : Int) != 13) = true := by rw [hn]; simp; omega
          have c5 : ((s[a].toNat : Int) != 32) = true := by rw [hn]; simp; omega
          clear hn
          go_wp2
          go_ret2
          exact ⟨skipAt_eq s T a ln ha (by rw [← HR.out]; exact skip_stop s a ln hz (by have := HN.out; omega) (.inl (by have := HN.out; omega))), rfl⟩
  · go_wp2
    go_ret2
    exact ⟨skipAt_eq s T a ln ha (by rw [← HR.out]; exact skip_nil s a ln (by omega)), rfl⟩
def tokV (t : TokV) : Value := .agg #[.int .i64 t.kind, .string ⟨t.text.toArray⟩, .bool t.flt, .int .u64 (t.bits : Int), .int .i64 (t.line : Int)]
theorem refV_num (s : List UInt8) : refV s = .tuple #[.agg #[.bool (numOf s).1, .int .u64 ((numOf s).2.1 : Int)], .int .i64 (numOf s).2.2] := by
 have form : ∃ (f : Bool) (b : Nat) (e : Int), refV s = .tuple #[.agg #[.bool f, .int .u64 (b : Int)], .int .i64 e] := by
  have hb : ∀ l, ∃ (f : Bool) (b : Nat) (e : Int), bitsV l = .tuple #[.agg #[.bool f, .int .u64 (b : Int)], .int .i64 e] := by
   intro l
   unfold bitsV
   split
   · exact ⟨_, _, _, rfl⟩
   · exact ⟨_, 0, _, rfl⟩
  have hp : ∀ m d t, ∃ (f : Bool) (b : Nat) (e : Int), parseV m d t = .tuple #[.agg #[.bool f, .int .u64 (b : Int)], .int .i64 e] := by
   intro m d t
   unfold parseV resV
   split
   · split
     · exact ⟨_, _, _, rfl⟩
     · split
       · exact ⟨_, _, _, rfl⟩
       · split
         · exact ⟨_, _, _, rfl⟩
         · exact ⟨_, _, _, rfl⟩
   · exact ⟨_, _, _, rfl⟩
  unfold refV
  split
  · exact hb _
  · split
    · exact hp _ _ _
    · exact hp _ _ _
 obtain ⟨f, b, e, h⟩ := form
 rw [numOf_of h, h]
theorem extract_from (s : ByteArray) (a b : Nat) : (s.extract a b).data.toList = (s.data.toList.drop a).take (b - a) := by
 simp [ByteArray.data_extract]
theorem extract_off (s : ByteArray) : (s.extract 1 s.size).data.toList = s.data.toList.drop 1 := by
 rw [extract_from, List.take_of_length_le]
 rw [List.length_drop]
 simp
set_option maxHeartbeats 1000000 in
theorem rnumber_any (kd : Int) (f0 : Bool) (b0 : Int) (line : Nat) (s : ByteArray) (w : World) (hs : 0 < s.size) (hs' : s.size ≤ 1000000) :
 Calls Tryz.prog 82 #[.agg #[.int .i64 kd, .string s, .bool f0, .int .u64 b0, .int .i64 line]] w fun e w' => e = .returned (.tuple #[tokV (numberF s.data.toList line).1, .int .i64 (numberF s.data.toList line).2]) ∧ Fr Nil w w' := by
 have hh : s.data.toList.head? = some s[0] := by rw [List.head?_eq_getElem?]; exact bytes_at s 0 hs
 have i1 : (0 : Int) < (s.size : Int) := by omega
 have i2 : (1 : Int) ≤ (s.size : Int) := by omega
 have hse : (⟨s.data.toList.toArray⟩ : ByteArray) = s := bytes_eq _ _ (by simp)
 by_cases h35 : s[0].toNat = 35
 · have c0 : ((s[0].toNat : Int) == 35) = true := by rw [h35]; rfl
   have ho : hashOff s.data.toList = (s.extract 1 s.size).data.toList := by
    unfold hashOff
    rw [hh, if_pos (congrArg some (u8_of (d := 35) h35 rfl)), extract_off]
   have hn := refV_num (s.extract 1 s.size).data.toList
   rw [← ho] at hn
   unfold numberF tokV
   rw [hse]
   generalize numOf (hashOff s.data.toList) = q at hn ⊢
   obtain ⟨f, b, e⟩ := q
   simp only at hn ⊢
   rw [ho] at hn
   have HN := Lib.hid hn
   clear hn hh ho h35
   go_enter Tryz.func82, Tryz.ntmps82
   go_wp2_with fail
   refine (rparse_any (s.extract 1 s.size) _ (by simp; omega)).mono ?_
   rw [HN.out]
   rintro e1 w2 ⟨rfl, f2⟩
   obtain ⟨_, _, _⟩ := f2.at (w.heap.size) (by first | assumption | omega | (simp; done) | (simp; omega)); obtain ⟨_, _, _⟩ := f2.at (w.heap.size + 1) (by first | assumption | omega | (simp; done) | (simp; omega))
   go_wp2
   refine bodyPost_ret (v := .tuple #[.agg #[.int .i64 3, .string s, .bool f, .int .u64 (b : Int), .int .i64 (line : Int)], .int .i64 e]) (by simp [results, Tryz.results82, go_sem, *]) rfl ⟨rfl, ?_⟩
   exact frA
 · have c0 : ((s[0].toNat : Int) == 35) = false := by simp; omega
   have ho : hashOff s.data.toList = s.data.toList := by
    unfold hashOff
    rw [hh, if_neg (fun e => h35 (by rw [Option.some.inj e]; rfl))]
   have hn := refV_num s.data.toList
   unfold numberF tokV
   rw [hse, ho]
   generalize numOf s.data.toList = q at hn ⊢
   obtain ⟨f, b, e⟩ := q
   simp only at hn ⊢
   have HN := Lib.hid hn
   clear hn hh ho h35 hse
   go_enter Tryz.func82, Tryz.ntmps82
   go_wp2_with fail
   refine (rparse_any s _ (by omega)).mono ?_
   rw [HN.out]
   rintro e1 w2 ⟨rfl, f2⟩
   obtain ⟨_, _, _⟩ := f2.at (w.heap.size) (by first | assumption | omega | (simp; done) | (simp; omega)); obtain ⟨_, _, _⟩ := f2.at (w.heap.size + 1) (by first | assumption | omega | (simp; done) | (simp; omega))
   go_wp2
   refine bodyPost_ret (v := .tuple #[.agg #[.int .i64 3, .string s, .bool f, .int .u64 (b : Int), .int .i64 (line : Int)], .int .i64 e]) (by simp [results, Tryz.results82, go_sem, *]) rfl ⟨rfl, ?_⟩
   exact frA
end Go.Proofs.YtlnmicddobgppaaGreatDoor
