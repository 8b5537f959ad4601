/-
  Contracts of package lex: a run's kind. No conditions but sizes that memory bears.
-/
import Derived.Test.YtomcmelgioamlaaDoorLex2
import Derived.Test.YtomcmelgioamlaaDoorMapLit
namespace Go.Proofs.YtomcmelgioamlaaDoor
set_option linter.unusedSimpArgs false
set_option linter.unusedVariables false
open Go.RowKit

def wordMap : List (List UInt8 × Int) := [([108, 101, 116], 5), ([105, 110], 5), ([99, 97, 115, 101], 5), ([111, 102], 5), ([100, 97, 116, 97], 5), ([119, 101, 97, 107], 7), ([100, 101, 114, 101, 102], 7), ([115, 101, 113], 7), ([102, 108, 111, 97, 116], 7), ([116, 114, 117, 110, 99], 7)]
def wordM (k : Nat) : List (List UInt8 × Int) := wordMap.take k
theorem zeroInt : (zeroValue 3).run Tryd.prog = fun w => .ok (.int .i64 0) w := by kernel_rfl
theorem ask_kind (s : List UInt8) : (askL (wordM 10) s).getD 0 = if s ∈ wordsL then 5 else if s ∈ backsL then 7 else 0 := by
  by_cases h1 : s ∈ wordsL
  · rw [if_pos h1]
    simp only [wordsL, List.mem_cons, List.not_mem_nil, or_false] at h1
    rcases h1 with h | h | h | h | h <;> (subst h; decide)
  · rw [if_neg h1]
    by_cases h2 : s ∈ backsL
    · rw [if_pos h2]
      clear h1
      simp only [backsL, List.mem_cons, List.not_mem_nil, or_false] at h2
      rcases h2 with h | h | h | h | h <;> (subst h; decide)
    · rw [if_neg h2]
      have hn : (wordM 10).find? (fun p => p.1 == s) = none := by
        rw [List.find?_eq_none]
        intro p hp
        simp only [beq_iff_eq]
        rintro rfl
        have key : ∀ p ∈ wordM 10, p.1 ∈ wordsL ∨ p.1 ∈ backsL := by decide
        rcases key p hp with q | q
        · exact h1 q
        · exact h2 q
      unfold askL
      rw [hn]
      rfl
set_option maxRecDepth 100000 in
set_option maxHeartbeats 1000000 in
theorem word_any (s : ByteArray) (w : World) (hs : 0 < s.size) :
    Calls Tryd.prog 29 #[.string s] w fun e w' => e = .returned (.int .i64 (kindF s.data.toList)) ∧ Fr Nil w w' := by
  have m0 : ∀ w : World, (Instr.makeMap 65 none).run Tryd.prog w = .ok (.map (some w.heap.size)) (w.alloc (.map (ents (wordM 0)) 0)) := fun w => run_makeMap_plain w _
  have m1 : (Instr.mapUpdate 65 (.map (some w.heap.size)) (.string ⟨#[108, 101, 116]⟩) (.int .i64 5)).run Tryd.prog (w.alloc (.map (ents (wordM 0)) 0)) = .ok () (w.alloc (.map (ents (wordM 1)) 1)) := run_ins w _ _ _ Tryd.underlying65 Tryd.underlying9 (wordM 0) [108, 101, 116] 5 (by decide) (wordM 1) (by decide) 0 (by decide)
  have m2 : (Instr.mapUpdate 65 (.map (some w.heap.size)) (.string ⟨#[105, 110]⟩) (.int .i64 5)).run Tryd.prog (w.alloc (.map (ents (wordM 1)) 1)) = .ok () (w.alloc (.map (ents (wordM 2)) 2)) := run_ins w _ _ _ Tryd.underlying65 Tryd.underlying9 (wordM 1) [105, 110] 5 (by decide) (wordM 2) (by decide) 1 (by decide)
  have m3 : (Instr.mapUpdate 65 (.map (some w.heap.size)) (.string ⟨#[99, 97, 115, 101]⟩) (.int .i64 5)).run Tryd.prog (w.alloc (.map (ents (wordM 2)) 2)) = .ok () (w.alloc (.map (ents (wordM 3)) 3)) := run_ins w _ _ _ Tryd.underlying65 Tryd.underlying9 (wordM 2) [99, 97, 115, 101] 5 (by decide) (wordM 3) (by decide) 2 (by decide)
  have m4 : (Instr.mapUpdate 65 (.map (some w.heap.size)) (.string ⟨#[111, 102]⟩) (.int .i64 5)).run Tryd.prog (w.alloc (.map (ents (wordM 3)) 3)) = .ok () (w.alloc (.map (ents (wordM 4)) 4)) := run_ins w _ _ _ Tryd.underlying65 Tryd.underlying9 (wordM 3) [111, 102] 5 (by decide) (wordM 4) (by decide) 3 (by decide)
  have m5 : (Instr.mapUpdate 65 (.map (some w.heap.size)) (.string ⟨#[100, 97, 116, 97]⟩) (.int .i64 5)).run Tryd.prog (w.alloc (.map (ents (wordM 4)) 4)) = .ok () (w.alloc (.map (ents (wordM 5)) 5)) := run_ins w _ _ _ Tryd.underlying65 Tryd.underlying9 (wordM 4) [100, 97, 116, 97] 5 (by decide) (wordM 5) (by decide) 4 (by decide)
  have m6 : (Instr.mapUpdate 65 (.map (some w.heap.size)) (.string ⟨#[119, 101, 97, 107]⟩) (.int .i64 7)).run Tryd.prog (w.alloc (.map (ents (wordM 5)) 5)) = .ok () (w.alloc (.map (ents (wordM 6)) 6)) := run_ins w _ _ _ Tryd.underlying65 Tryd.underlying9 (wordM 5) [119, 101, 97, 107] 7 (by decide) (wordM 6) (by decide) 5 (by decide)
  have m7 : (Instr.mapUpdate 65 (.map (some w.heap.size)) (.string ⟨#[100, 101, 114, 101, 102]⟩) (.int .i64 7)).run Tryd.prog (w.alloc (.map (ents (wordM 6)) 6)) = .ok () (w.alloc (.map (ents (wordM 7)) 7)) := run_ins w _ _ _ Tryd.underlying65 Tryd.underlying9 (wordM 6) [100, 101, 114, 101, 102] 7 (by decide) (wordM 7) (by decide) 6 (by decide)
  have m8 : (Instr.mapUpdate 65 (.map (some w.heap.size)) (.string ⟨#[115, 101, 113]⟩) (.int .i64 7)).run Tryd.prog (w.alloc (.map (ents (wordM 7)) 7)) = .ok () (w.alloc (.map (ents (wordM 8)) 8)) := run_ins w _ _ _ Tryd.underlying65 Tryd.underlying9 (wordM 7) [115, 101, 113] 7 (by decide) (wordM 8) (by decide) 7 (by decide)
  have m9 : (Instr.mapUpdate 65 (.map (some w.heap.size)) (.string ⟨#[102, 108, 111, 97, 116]⟩) (.int .i64 7)).run Tryd.prog (w.alloc (.map (ents (wordM 8)) 8)) = .ok () (w.alloc (.map (ents (wordM 9)) 9)) := run_ins w _ _ _ Tryd.underlying65 Tryd.underlying9 (wordM 8) [102, 108, 111, 97, 116] 7 (by decide) (wordM 9) (by decide) 8 (by decide)
  have m10 : (Instr.mapUpdate 65 (.map (some w.heap.size)) (.string ⟨#[116, 114, 117, 110, 99]⟩) (.int .i64 7)).run Tryd.prog (w.alloc (.map (ents (wordM 9)) 9)) = .ok () (w.alloc (.map (ents (wordM 10)) 10)) := run_ins w _ _ _ Tryd.underlying65 Tryd.underlying9 (wordM 9) [116, 114, 117, 110, 99] 7 (by decide) (wordM 10) (by decide) 9 (by decide)
  have mL := run_look w _ _ _ Tryd.underlying65 Tryd.underlying9 zeroInt (wordM 10) 10 s
  rw [ask_kind] at mL
  have i0 : (0 : Int) < (s.size : Int) := by omega
  by_cases h1 : s.data.toList ∈ wordsL
  · have hk : kindF s.data.toList = 5 := by unfold kindF; rw [if_pos h1]
    rw [if_pos h1] at mL
    rw [hk]
    clear h1 hk
    go_enter Tryd.func29, Tryd.ntmps29
    go_wp2
    go_ret
    exact ⟨rfl, by (repeat (first | (with_reducible exact Fr.refl _ _) | (with_reducible assumption) | (with_reducible exact Fr.of_nil (by assumption)) | (with_reducible refine Fr.drew ?_) | (with_reducible refine Fr.drewN ?_ _) | (with_reducible refine Fr.alloc ?_ _) | (with_reducible refine Fr.set ?_ _ _ (by first | (intros; omega) | (simp; done) | (simp; omega))) | (with_reducible refine Fr.via ?_ (by assumption)) | (with_reducible refine Fr.comp ?_ (by assumption))))⟩
  · rw [if_neg h1] at mL
    by_cases h2 : s.data.toList ∈ backsL
    · have hk : kindF s.data.toList = 7 := by unfold kindF; rw [if_neg h1, if_pos h2]
      rw [if_pos h2] at mL
      rw [hk]
      clear h1 h2 hk
      go_enter Tryd.func29, Tryd.ntmps29
      go_wp2
      go_ret
      exact ⟨rfl, by (repeat (first | (with_reducible exact Fr.refl _ _) | (with_reducible assumption) | (with_reducible exact Fr.of_nil (by assumption)) | (with_reducible refine Fr.drew ?_) | (with_reducible refine Fr.drewN ?_ _) | (with_reducible refine Fr.alloc ?_ _) | (with_reducible refine Fr.set ?_ _ _ (by first | (intros; omega) | (simp; done) | (simp; omega))) | (with_reducible refine Fr.via ?_ (by assumption)) | (with_reducible refine Fr.comp ?_ (by assumption))))⟩
    · rw [if_neg h2] at mL
      have hk : kindF s.data.toList = if capC s[0] then 2 else 1 := by
        unfold kindF
        rw [if_neg h1, if_neg h2]
        have e : s.data.toList.head? = some s[0] := by rw [List.head?_eq_getElem?]; exact bytes_at s 0 hs
        rw [e]
        rfl
      rw [hk]
      clear h1 h2 hk
      have hB := capB s[0]
      cases hc : capC s[0]
      · rw [hc] at hB
        have t1 : (decide ((65 : Int) ≤ (s[0].toNat : Int)) && decide ((s[0].toNat : Int) ≤ 90)) = false := hB
        clear hB hc
        go_enter Tryd.func29, Tryd.ntmps29
        go_wp2
        all_goals
          go_ret
          exact ⟨by simp_all, by (repeat (first | (with_reducible exact Fr.refl _ _) | (with_reducible assumption) | (with_reducible exact Fr.of_nil (by assumption)) | (with_reducible refine Fr.drew ?_) | (with_reducible refine Fr.drewN ?_ _) | (with_reducible refine Fr.alloc ?_ _) | (with_reducible refine Fr.set ?_ _ _ (by first | (intros; omega) | (simp; done) | (simp; omega))) | (with_reducible refine Fr.via ?_ (by assumption)) | (with_reducible refine Fr.comp ?_ (by assumption))))⟩
      · rw [hc] at hB
        simp only [Bool.and_eq_true, decide_eq_true_eq] at hB
        obtain ⟨u1, u2⟩ := hB
        clear hc
        go_enter Tryd.func29, Tryd.ntmps29
        go_wp2
        go_ret
        exact ⟨rfl, by (repeat (first | (with_reducible exact Fr.refl _ _) | (with_reducible assumption) | (with_reducible exact Fr.of_nil (by assumption)) | (with_reducible refine Fr.drew ?_) | (with_reducible refine Fr.drewN ?_ _) | (with_reducible refine Fr.alloc ?_ _) | (with_reducible refine Fr.set ?_ _ _ (by first | (intros; omega) | (simp; done) | (simp; omega))) | (with_reducible refine Fr.via ?_ (by assumption)) | (with_reducible refine Fr.comp ?_ (by assumption))))⟩
end Go.Proofs.YtomcmelgioamlaaDoor
