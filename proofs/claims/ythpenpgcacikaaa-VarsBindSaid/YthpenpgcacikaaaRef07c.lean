/-
  Contracts of the document's answer for layer 7: the longest sign that stands at a place. No conditions but sizes that memory bears.
-/
import Derived.Test.YthpenpgcacikaaaRef07b
namespace Go.Proofs.Ythpenpgcacikaaa
set_option linter.unusedSimpArgs false
set_option linter.unusedVariables false
open Go.RowKit

/-- Texts, as cells. -/
def strs (l : List (List UInt8)) : Array Value := (l.map fun c => Value.string ⟨c.toArray⟩).toArray
theorem strs_at (l : List (List UInt8)) (k : Nat) (h : k < l.length) : (strs l)[k]? = some (.string ⟨l[k].toArray⟩) := by
  simp [strs, h]
theorem ops_any (w : World) : Calls Try.prog 56 #[] w fun e w' => ∃ b, e = .returned (.slice (some ⟨b, 0, none⟩) 13 13) ∧ Blk w' b (strs opsL) 9 ∧ Fr Nil w w' := by
  go_enter Try.func56, Try.ntmps56
  go_wp2
  go_ret
  exact ⟨_, rfl, Blk.new w _ _, by (repeat (first | (with_reducible exact Fr.refl _ _) | (with_reducible assumption) | (with_reducible exact Fr.of_nil (by assumption)) | (with_reducible refine Fr.drew ?_) | (with_reducible refine Fr.drewN ?_ _) | (with_reducible refine Fr.alloc ?_ _) | (with_reducible refine Fr.set ?_ _ _ (by first | (intros; omega) | (simp; done) | (simp; omega))) | (with_reducible refine Fr.via ?_ (by assumption)) | (with_reducible refine Fr.comp ?_ (by assumption))))⟩
theorem puncts_any (w : World) : Calls Try.prog 57 #[] w fun e w' => ∃ b, e = .returned (.slice (some ⟨b, 0, none⟩) 8 8) ∧ Blk w' b (strs punctsL) 9 ∧ Fr Nil w w' := by
  go_enter Try.func57, Try.ntmps57
  go_wp2
  go_ret
  exact ⟨_, rfl, Blk.new w _ _, by (repeat (first | (with_reducible exact Fr.refl _ _) | (with_reducible assumption) | (with_reducible exact Fr.of_nil (by assumption)) | (with_reducible refine Fr.drew ?_) | (with_reducible refine Fr.drewN ?_ _) | (with_reducible refine Fr.alloc ?_ _) | (with_reducible refine Fr.set ?_ _ _ (by first | (intros; omega) | (simp; done) | (simp; omega))) | (with_reducible refine Fr.via ?_ (by assumption)) | (with_reducible refine Fr.comp ?_ (by assumption))))⟩
theorem stepL_no {l best c : List UInt8} (h : c.isPrefixOf l = false) : stepL l best c = best := by unfold stepL; rw [h]; rfl
theorem stepL_short {l best c : List UInt8} (h : ¬ best.length < c.length) : stepL l best c = best := by unfold stepL; rw [if_neg (by simp [h])]
theorem stepL_yes {l best c : List UInt8} (h : c.isPrefixOf l = true) (g : best.length < c.length) : stepL l best c = c := by unfold stepL; rw [if_pos (by simp [h, g])]
theorem fold_snoc (l : List UInt8) (cs : List (List UInt8)) (i : Nat) (h : i < cs.length) : (cs.take (i + 1)).foldl (stepL l) [] = stepL l ((cs.take i).foldl (stepL l) []) cs[i] := by
  rw [List.take_succ_eq_append_getElem h, List.foldl_append]; rfl
theorem cut_pre (s : ByteArray) (at_ : Nat) (c : List UInt8) (h : at_ + c.length ≤ s.size) : c.isPrefixOf (s.data.toList.drop at_) = ((s.extract at_ (at_ + c.length)).toList == c) := by
  have e : (s.extract at_ (at_ + c.length)).toList = (s.data.toList.drop at_).take c.length := by
    rw [Lib.toList_data]
    simp [ByteArray.data_extract]
  rw [e, Bool.eq_iff_iff, List.isPrefixOf_iff_prefix, beq_iff_eq, List.prefix_iff_eq_take]
  exact eq_comm
theorem cut_out (s : ByteArray) (at_ : Nat) (c : List UInt8) (hp : 0 < c.length) (h : ¬ at_ + c.length ≤ s.size) : c.isPrefixOf (s.data.toList.drop at_) = false := by
  rw [Bool.eq_false_iff]
  intro q
  have := (List.isPrefixOf_iff_prefix.1 q).length_le
  rw [List.length_drop] at this
  have hl : s.data.toList.length = s.size := by simp
  omega
set_option maxRecDepth 100000 in
set_option maxHeartbeats 1000000 in
theorem longest_any (s : ByteArray) (at_ b : Nat) (cs : List (List UInt8)) (w : World) (hs : s.size ≤ 1000000) (hat : at_ ≤ s.size) (hcs : cs.length ≤ 100) (hc : ∀ c ∈ cs, 0 < c.length ∧ c.length ≤ 10) (hb : Blk w b (strs cs) 9) :
    Calls Try.prog 55 #[.string s, .int .i64 at_, .slice (some ⟨b, 0, none⟩) cs.length cs.length] w fun e w' => e = .returned (.string ⟨(longF (s.data.toList.drop at_) cs).toArray⟩) ∧ Fr Nil w w' := by
  have HCL := Lib.hid hcs
  go_enter Try.func55, Try.ntmps55
  go_wp2_with fail
  go_loopw [7, 8] (fun v i wr => ∃ (k q : Nat) (B : ByteArray), k ≤ cs.length ∧ i = .int .i64 k ∧ v = .string B ∧ B = ⟨((cs.take k).foldl (stepL (s.data.toList.drop at_)) []).toArray⟩ ∧ wr = w.drewN q) (fun _ i _ => cs.length - (intOf i).toNat)
  case atStart => exact ⟨0, 0, _, Nat.zero_le _, rfl, rfl, rfl, rfl⟩
  case round =>
    obtain ⟨k, q, B, hk, rfl, rfl, hB, rfl⟩ := hrel
    have HB := Lib.hid hB
    clear hB
    by_cases hlt : k < cs.length
    · have hd := (hb.cell k).trans (strs_at cs k hlt)
      have hstep := fold_snoc (s.data.toList.drop at_) cs k hlt
      obtain ⟨hc0, hc1⟩ := hc _ (List.getElem_mem hlt)
      have hcut := cut_pre s at_ cs[k]
      have hout := cut_out s at_ cs[k] hc0
      obtain ⟨c, hcc⟩ : ∃ c, cs[k] = c := ⟨_, rfl⟩
      rw [hcc] at hd hstep hc0 hc1 hcut hout
      obtain ⟨C, hC⟩ : ∃ C : ByteArray, C = ⟨c.toArray⟩ := ⟨_, rfl⟩
      rw [← hC] at hd
      have hCs : c.length = C.size := by rw [hC]; simp [ByteArray.size]
      have hCl : C.toList = c := by rw [hC, Lib.toList_data]
      have hbs : (((cs.take k).foldl (stepL (s.data.toList.drop at_)) []).length) = B.size := by rw [HB.out]; simp [ByteArray.size]
      have hBl : B.size ≤ 1000000 := by
        rw [← hbs]
        have := (long_pre (s.data.toList.drop at_) (cs.take k) [] List.nil_prefix).length_le
        rw [List.length_drop] at this
        have hl : s.data.toList.length = s.size := by simp
        omega
      have HS := Lib.hid hstep
      have HCC := Lib.hid (And.intro hcc (And.intro hCs (And.intro hCl (And.intro hbs hC))))
      rw [hCs] at hc0 hc1 hcut hout
      clear hcc hstep hC hbs hCs hCl
      have b1 : (0 : Int) ≤ (k : Int) := by omega
      have b2 : (k : Int) < (cs.length : Int) := by omega
      have b3 : (0 : Int) ≤ (at_ : Int) := by omega
      have w1 : IntKind.i64.wrap ((at_ : Int) + (C.size : Int)) = (at_ : Int) + (C.size : Int) := by rw [IntKind.wrap_i64]; omega
      by_cases hA : at_ + C.size ≤ s.size
      · have hcut' := hcut hA
        clear hcut hout
        have hA1 : decide ((at_ : Int) + (C.size : Int) ≤ (s.size : Int)) = true := by simp; omega
        by_cases hP : c.isPrefixOf (s.data.toList.drop at_) = true
        · rw [hP] at hcut'
          have hT : ((s.extract at_ (at_ + C.size)).toList == C.toList) = true := by rw [HCC.out.2.2.1]; exact hcut'.symm
          by_cases hG : B.size < C.size
          · have HN := Lib.hid (stepL_yes (best := (cs.take k).foldl (stepL (s.data.toList.drop at_)) []) hP (by rw [HCC.out.2.2.2.1, HCC.out.2.1]; exact hG))
            have hG1 : decide ((B.size : Int) < (C.size : Int)) = true := by simp; omega
            clear hcut' hP
            go_wp2
            go_quiet (fail)
            go_wp2
            go_roundw
            case rel => exact ⟨k + 1, _, C, by omega, by go_num, rfl, by rw [HS.out, HN.out]; exact HCC.out.2.2.2.2, rfl⟩
            case measure => simp [intOf]; omega
          · have HN := Lib.hid (stepL_short (l := s.data.toList.drop at_) (c := c) (best := (cs.take k).foldl (stepL (s.data.toList.drop at_)) []) (by rw [HCC.out.2.2.2.1, HCC.out.2.1]; exact hG))
            have hG1 : decide ((B.size : Int) < (C.size : Int)) = false := by simp; omega
            clear hcut' hP
            go_wp2
            go_quiet (fail)
            go_wp2
            go_roundw
            case rel => exact ⟨k + 1, _, B, by omega, by go_num, rfl, by rw [HS.out, HN.out]; exact HB.out, rfl⟩
            case measure => simp [intOf]; omega
        · rw [Bool.not_eq_true] at hP
          have HN := Lib.hid (stepL_no (best := (cs.take k).foldl (stepL (s.data.toList.drop at_)) []) hP)
          rw [hP] at hcut'
          have hT : ((s.extract at_ (at_ + C.size)).toList == C.toList) = false := by rw [HCC.out.2.2.1]; exact hcut'.symm
          clear hcut' hP
          go_wp2
          go_quiet (fail)
          go_wp2
          go_roundw
          case rel => exact ⟨k + 1, _, B, by omega, by go_num, rfl, by rw [HS.out, HN.out]; exact HB.out, rfl⟩
          case measure => simp [intOf]; omega
      · have hA1 : decide ((at_ : Int) + (C.size : Int) ≤ (s.size : Int)) = false := by simp; omega
        have HN := Lib.hid (stepL_no (best := (cs.take k).foldl (stepL (s.data.toList.drop at_)) []) (hout (by omega)))
        clear hcut hout
        go_wp2
        go_quiet (fail)
        go_wp2
        go_roundw
        case rel => exact ⟨k + 1, _, B, by omega, by go_num, rfl, by rw [HS.out, HN.out]; exact HB.out, rfl⟩
        case measure => simp [intOf]; omega
    · obtain rfl : k = cs.length := by omega
      go_wp2
      go_ret
      refine ⟨?_, by (repeat (first | (with_reducible exact Fr.refl _ _) | (with_reducible assumption) | (with_reducible exact Fr.of_nil (by assumption)) | (with_reducible refine Fr.drew ?_) | (with_reducible refine Fr.drewN ?_ _) | (with_reducible refine Fr.alloc ?_ _) | (with_reducible refine Fr.set ?_ _ _ (by first | (intros; omega) | (simp; done) | (simp; omega))) | (with_reducible refine Fr.via ?_ (by assumption)) | (with_reducible refine Fr.comp ?_ (by assumption))))⟩
      have e := HB.out
      rw [List.take_length] at e
      rw [e]; rfl
end Go.Proofs.Ythpenpgcacikaaa
