/-
  ParseParts: what parts tokens plays no part. Conditions: the library's variables.
-/
import Derived.Test.YtlnmicddobgppaaGreatDoorHeldBy
import Derived.Test.YtlnmicddobgppaaGreatDoorL08a
import Derived.Test.YtlnmicddobgppaaGreatDoorPjA
namespace Go.Proofs.YtlnmicddobgppaaGreatDoor
set_option linter.unusedSimpArgs false
set_option linter.unusedVariables false
open Go.RowKit

theorem flatT_get9 (l : List TokV) (i : Nat) (hi : i < l.length) (k : Nat) (hk : k < 5) : (flatT l)[i * 5 + k]? = (tokCells l[i])[k]? := flatT_get8 l i hi k hk
theorem tok_cell8 {base g cap : Nat} {w : World} {l : List TokV} {n : Nat} (h : ToksAt base w (.slice (some ⟨g, 0, none⟩) n cap) l) (hn : n = l.length) (i : Nat) (hi : i < l.length) (k : Nat) (hk : k < 5) : w.cell? ⟨g, i * 5 + k, none⟩ = (tokCells l[i])[k]? := by
  subst hn
  rw [World.ownsRow.cellAt h (i * 5 + k) (by omega)]
  exact flatT_get9 l i hi k hk
theorem toks_form8 {base : Nat} {w : World} {v : Value} {l : List TokV} (h : ToksAt base w v l) (hn : 0 < l.length) : ∃ g cap, v = .slice (some ⟨g, 0, none⟩) l.length cap := by
  obtain ⟨g, cap, e⟩ := Joins.ownsRow_form h hn
  exact ⟨g, cap, e⟩
set_option maxRecDepth 100000 in
set_option maxHeartbeats 4000000 in
theorem parts8_any (s : ByteArray) (w : World) (hW : LibW w) : Calls Tryz.prog 4 #[.string s] w fun e w' => e = .returned (.bool true) ∧ Fr Nil w w' := by
  have hav := awake8_any w hW
  have HA := Lib.hid hav
  have HW := Lib.hid hW
  clear hav hW
  by_cases hs : s.size ≤ 5000
  · have t1 : ¬ (5000 : Int) < (s.size : Int) := by omega
    have h1 := fun w h => lex_any s w h (by omega)
    have hg := lexF_good s.data.toList
    have hle := lexF_few s.data.toList
    have htk := lexF_takes s.data.toList
    have hpp := fun w h => qparse_any s w h (by omega)
    have hpt := @parse_parts s.data.toList
    rw [size_of] at htk
    obtain ⟨⟨T, er, ln⟩, hR⟩ : ∃ R, lexF s.data.toList = R := ⟨_, rfl⟩
    simp only [hR] at h1 hg hle htk hpt
    clear hR
    have H1 := Lib.hid h1
    clear h1
    by_cases her0 : er = 0
    · subst her0
      have hz : (backB T T.length).data.toList = backT T := by
        unfold backB
        rw [List.take_length]
      have h2 := fun w h => qparse_any (backB T T.length) w h (by have := backB_size T T.length; omega)
      have hpt' := hpt rfl
      rw [hz] at h2
      obtain ⟨⟨M, E1, E2⟩, hM⟩ : ∃ M, parseF s.data.toList = M := ⟨_, rfl⟩
      obtain ⟨⟨M', E1', E3⟩, hM'⟩ : ∃ M, parseF (backT T) = M := ⟨_, rfl⟩
      rw [hM] at hpp hpt'
      rw [hM'] at h2 hpt'
      simp only at hpp h2 hpt'
      obtain ⟨rfl, rfl⟩ := hpt'
      have HP := Lib.hid hpp
      have H2 := Lib.hid h2
      have HG := Lib.hid hg
      clear h2 hz hg hpp hpt hM hM'
      go_enter Tryz.func4, Tryz.ntmps4
      go_wp2_with fail
      refine (HA.out).mono ?_
      rintro e w1 ⟨rfl, f1⟩
      go_wp2_with fail
      refine (H1.out _ (HW.out.fr f1)).mono ?_
      rintro e w3 ⟨v1, rfl, hv1, f3⟩
      have f23 : Fr Nil w w3 := f1.trans f3 (fun _ _ q => q)
      obtain ⟨L, hL⟩ : ∃ L, T.length = L := ⟨_, rfl⟩
      obtain ⟨a1, c1, rfl⟩ := owns_shape hv1
      rw [hL]
      have HV1 := Lib.hid hv1
      have HLn := Lib.hid hL
      have hL4 : L ≤ 4096 := by omega
      clear hv1 hL f1 f3 HA H1 hle
      have HTK := Lib.hid htk
      clear htk
      go_wp2_with fail
      go_loopw [6, 7] (fun sv iv wr => ∃ k : Nat, k ≤ L ∧ sv = .string (backB T k) ∧ iv = .int .i64 k ∧ Fr Nil w3 wr) (fun _ iv _ => L - (intOf iv).toNat)
      case atStart => exact ⟨0, by omega, rfl, rfl, Fr.refl _ _⟩
      case round =>
        obtain ⟨k, hk, rfl, rfl, hw⟩ := hrel
        by_cases hlt : k < L
        · have hjr : k < T.length := by rw [HLn.out]; exact hlt
          have hpos : 0 < T.length := by omega
          obtain ⟨g1, d1, e1⟩ := toks_form8 HV1.out hpos
          injection e1 with e1 _ e1'
          subst e1 e1'
          have p := HV1.out.fr hw
          have p1 := tok_cell8 p rfl k hjr 1 (by omega)
          simp only [tokCells, List.getElem?_cons_zero, List.getElem?_cons_succ] at p1
          have hmem := takes_mem T _ (List.getElem_mem hjr)
          have htk := HTK.out
          have hX0 : 0 < T[k].text.length := good_pos (HG.out _ (List.getElem_mem hjr))
          have hmore := backB_more T k hjr
          have hsz := backB_size T k
          have hsz2 := backB_size T (k + 1)
          obtain ⟨X, hX⟩ : ∃ X : ByteArray, (⟨T[k].text.toArray⟩ : ByteArray) = X := ⟨_, rfl⟩
          have hXs : X.size = T[k].text.length := by rw [← hX]; simp [ByteArray.size]
          rw [hX] at p1 hmore
          rw [← hXs] at hX0 hmem
          have sa : ∀ w, (Op.stringOp .add (backB T k) X).run Tryz.prog w = .ok (.string (backB T k ++ X)) w := fun w => run_string_add_sum w _ _ (by omega)
          have sb : ∀ w, (Op.stringOp .add (backB T k ++ X) ⟨#[32]⟩).run Tryz.prog w = .ok (.string (backB T (k + 1))) w := fun w => by
            rw [← hmore]
            exact run_string_add_sum w _ _ (by rw [ByteArray.size_append]; have : (⟨#[32]⟩ : ByteArray).size = 1 := rfl; omega)
          have i0 : (0 : Int) ≤ (k : Int) := by omega
          have i1 : (k : Int) < (L : Int) := by omega
          clear p hjr hpos hsz hsz2 hmem htk hmore hXs hX
          go_wp2
          go_roundw
          case rel => exact ⟨k + 1, by omega, rfl, by go_num, hw⟩
          case measure => simp [intOf]; omega
        · obtain rfl : k = L := by omega
          have i1 : ¬ ((k : Int) < (k : Int)) := by omega
          have HLn' := HLn.out
          subst HLn'
          have F1 := f23.trans hw (fun _ _ q => q)
          have HF1 := Lib.hid F1
          clear F1 hw f23
          go_wp2_with fail
          refine (HP.out _ (HW.out.fr HF1.out)).mono ?_
          rintro e w4 ⟨va, rfl, h4, f4⟩
          obtain ⟨c1, c2, b1, b2, rfl⟩ := h4.form
          obtain ⟨nc, hnc⟩ : ∃ n, M'.cons.length = n := ⟨_, rfl⟩
          obtain ⟨nb, hnb⟩ : ∃ n, M'.binds.length = n := ⟨_, rfl⟩
          simp only [hnc, hnb] at h4 ⊢
          obtain ⟨Tm, hTm⟩ : ∃ T, w4.heap.size = T := ⟨_, rfl⟩
          obtain ⟨W5, hW5⟩ : ∃ W3, w4.alloc (.cells #[.slice c1 nc c2, .slice b1 nb b2] 26) = W3 := ⟨_, rfl⟩
          have f5 : Fr Nil w4 W5 := by rw [← hW5]; exact frA
          have bT : Blk W5 Tm #[.slice c1 nc c2, .slice b1 nb b2] 26 := by rw [← hW5, ← hTm]; exact Blk.new _ _ _
          have H5 := Lib.hid (And.intro (h4.free.fr f5 (fun _ q => q.elim)) (And.intro bT ((HF1.out.comp f4).comp f5)))
          have HWW := Lib.hid (And.intro hTm hW5)
          clear h4 f4 f5 bT hTm hW5
          go_wp2_with fail
          try rw [HWW.out.1]
          try rw [HWW.out.2]
          clear HWW
          refine (H2.out _ (HW.out.fr H5.out.2.2)).mono ?_
          rintro e w6 ⟨vb, rfl, h6, f6⟩
          obtain ⟨d1, d2, e1, e2, rfl⟩ := h6.form
          simp only [hnc, hnb] at h6 ⊢
          have bT6 := f6.blk H5.out.2.1 (fun q => q)
          have y0 := bT6.cell 0
          have y1 := bT6.cell 1
          simp at y0 y1
          have yl := bT6.lt
          have H6 := Lib.hid (And.intro (H5.out.1.fr f6 (fun _ q => q.elim)) (And.intro h6.free (H5.out.2.2.comp f6)))
          clear bT6 f6 h6
          go_wp2_with fail
          refine (same8_any (m := M') (H6.out.1.fr (S := Nil) (by exact frA) (fun _ q => q.elim)) (H6.out.2.1.fr (S := Nil) (by exact frA) (fun _ q => q.elim))).mono ?_
          rintro e w7 ⟨rfl, f7⟩
          have HF := Lib.hid (H6.out.2.2.comp (Fr.comp (S := Nil) (by exact frA) f7))
          clear f7
          go_wp2
          go_ret
          exact ⟨rfl, HF.out⟩
    · have d1 : (er == 0) = false := by simpa using her0
      clear hpp hpt
      go_enter Tryz.func4, Tryz.ntmps4
      go_wp2_with fail
      refine (HA.out).mono ?_
      rintro e w1 ⟨rfl, f1⟩
      go_wp2_with fail
      refine (H1.out _ (HW.out.fr f1)).mono ?_
      rintro e w3 ⟨v1, rfl, hv1, f3⟩
      clear hv1
      go_wp2
      go_ret
      exact ⟨rfl, f1.trans f3 (fun _ _ q => q)⟩
  · have t1 : (5000 : Int) < (s.size : Int) := by omega
    go_enter Tryz.func4, Tryz.ntmps4
    go_wp2_with fail
    refine (HA.out).mono ?_
    rintro e w1 ⟨rfl, f1⟩
    go_wp2
    go_ret
    exact ⟨rfl, by exact frA⟩
end Go.Proofs.YtlnmicddobgppaaGreatDoor
