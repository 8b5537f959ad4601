/-
  ParseCuts: a beginning of a source's tokens. Conditions: the library's variables.
-/
import Derived.Test.YtlnmicddobgppaaGreatDoorHeldBy
import Derived.Test.YtlnmicddobgppaaGreatDoorL08b
import Derived.Test.YtlnmicddobgppaaGreatDoorPjA
namespace Go.Proofs.YtlnmicddobgppaaGreatDoor
set_option linter.unusedSimpArgs false
set_option linter.unusedVariables false
open Go.RowKit

theorem toks_take {base : Nat} {w : World} {a : Option Addr} {n c : Nat} {T : List TokV} (h : ToksAt base w (.slice a n c) T) (hn : T.length = n) {k : Nat} (hk : k ≤ n) : RowC (fun _ => False) w (.slice a k c) (T.take k).length 5 (fun i => tokCells ((T.take k).getD i (none_ 0))) := by
  have hr := toks_row h
  rw [hn] at hr
  obtain ⟨a1, c1, e, q1, q2, hc⟩ := hr
  cases e
  have hl : (T.take k).length = k := by rw [List.length_take]; omega
  rw [hl]
  refine ⟨a, c, rfl, by omega, q2, fun i hi => ?_⟩
  obtain ⟨b, off, e2, hb, hl2, hcell⟩ := hc i (by omega)
  refine ⟨b, off, e2, hb, rfl, fun j u hj => hcell j u ?_⟩
  have e3 : (T.take k).getD i (none_ 0) = T.getD i (none_ 0) := by
    simp [List.getD, List.getElem?_take, hi]
  have hj' : (tokCells ((T.take k).getD i (none_ 0)))[j]? = some u := hj
  rw [e3] at hj'
  exact hj'
set_option maxRecDepth 100000 in
set_option maxHeartbeats 8000000 in
theorem cuts8_any (s : ByteArray) (cut : Int) (w : World) (hW : LibW w) : Calls Tryz.prog 6 #[.string s, .int .i64 cut] w fun e w' => e = .returned (.bool true) ∧ Fr Nil w w' := by
  have hav := awake8_any w hW
  have HA := Lib.hid hav
  have HW := Lib.hid hW
  clear hav hW
  by_cases hs : s.size ≤ 3000
  · have t1 : ¬ (3000 : Int) < (s.size : Int) := by omega
    have h1 := fun w h => lex_any s w h (by omega)
    have hg := lexF_good s.data.toList
    have hle := lexF_few s.data.toList
    have htk := lexF_takes s.data.toList
    have hpp := fun w h => qparse_any s w h (by omega)
    have hpc := @parse_cuts s.data.toList
    rw [size_of] at htk
    obtain ⟨⟨T, er, ln⟩, hR⟩ : ∃ R, lexF s.data.toList = R := ⟨_, rfl⟩
    simp only [hR] at h1 hg hle htk hpc
    obtain ⟨⟨M, E1, E2⟩, hM⟩ : ∃ M, parseF s.data.toList = M := ⟨_, rfl⟩
    rw [hM] at hpp hpc
    simp only at hpp hpc
    have H1 := Lib.hid h1
    have HP := Lib.hid hpp
    have HPC := Lib.hid hpc
    have HG := Lib.hid hg
    have HTK := Lib.hid htk
    clear h1 hpp hM hR hpc hg htk
    go_enter Tryz.func6, Tryz.ntmps6
    go_wp2_with fail
    refine (HA.out).mono ?_
    rintro e w1 ⟨rfl, f1⟩
    go_wp2_with fail
    refine (H1.out _ (HW.out.fr f1)).mono ?_
    rintro e w3 ⟨v1, rfl, hv1, f3⟩
    have f23 : Fr Nil w w3 := f1.trans f3 (fun _ _ q => q)
    obtain ⟨L, hL⟩ : ∃ L, T.length = L := ⟨_, rfl⟩
    obtain ⟨a1, c1, rfl⟩ := owns_shape hv1
    rw [hL]
    have hL4 : L ≤ 4096 := by omega
    have HV1 := Lib.hid hv1
    have HLn := Lib.hid hL
    have HF3 := Lib.hid f23
    clear hv1 hL f1 f3 HA H1 hle f23
    go_wp2_with fail
    refine (HP.out _ (HW.out.fr HF3.out)).mono ?_
    rintro e w4 ⟨va, rfl, h4, f4⟩
    obtain ⟨mc1, mc2, mb1, mb2, rfl⟩ := h4.form
    generalize M.cons.length = nc
    generalize M.binds.length = nb
    obtain ⟨Tm, hTm⟩ : ∃ T, w4.heap.size = T := ⟨_, rfl⟩
    obtain ⟨W5, hW5⟩ : ∃ W3, w4.alloc (.cells #[.slice mc1 nc mc2, .slice mb1 nb mb2] 26) = W3 := ⟨_, rfl⟩
    have f5 : Fr Nil w4 W5 := by rw [← hW5]; exact frA
    have H5 := Lib.hid ((f4.comp f5))
    have HWW := Lib.hid (And.intro hTm hW5)
    clear h4 f4 f5 hTm hW5 HP
    go_upto_region 7 with fail
    try rw [HWW.out.1]
    try rw [HWW.out.2]
    clear HWW
    by_cases her : er = 0
    · subst her
      by_cases hE : E1 = 0
      · subst hE
        by_cases hc0 : cut < 0
        · go_wp2
          go_ret
          exact ⟨rfl, HF3.out.comp (H5.out.comp (by exact frA))⟩
        · by_cases hcL : cut < (L : Int)
          · obtain ⟨c, rfl⟩ : ∃ c : Nat, cut = (c : Int) := ⟨cut.toNat, by omega⟩
            have hcl : c < L := by omega
            have i5 : ¬ (L : Int) ≤ (c : Int) := by omega
            have hz : (backB T c).data.toList = backT (T.take c) := rfl
            have h2 := fun w h => qparse_any (backB T c) w h (by have := backB_size T c; have := HTK.out; have := HLn.out; omega)
            rw [hz] at h2
            have hpc := HPC.out rfl rfl (cut := c) (by rw [HLn.out]; exact hcl)
            obtain ⟨⟨M', G, LN⟩, hM'⟩ : ∃ M, parseF (backT (T.take c)) = M := ⟨_, rfl⟩
            obtain ⟨⟨Mk, hK, lnK⟩, hMk⟩ : ∃ M, tokensF (T.take c) = M := ⟨_, rfl⟩
            have h3 := fun w (f : Fr Nil w3 w) => ptokens_any (toks_take (HV1.out.fr f) rfl (k := c) (by have := HLn.out; omega)) (by rw [List.length_take]; omega)
            rw [hM'] at h2 hpc
            rw [hMk] at hpc
            simp only [hMk] at h3
            simp only at h2 hpc
            have H2 := Lib.hid h2
            have H3 := Lib.hid h3
            have HPK := Lib.hid hpc
            clear h2 h3 hpc hM' hMk hz
            go_wp2_with fail
            go_loopw [11, 12] (fun sv iv wr => ∃ k : Nat, k ≤ c ∧ sv = .string (backB T k) ∧ iv = .int .i64 k ∧ Hid (Fr Nil W5 wr)) (fun _ iv _ => c - (intOf iv).toNat)
            case atStart => exact ⟨0, by omega, rfl, rfl, Lib.hid (by exact frA)⟩
            case round =>
              obtain ⟨k, hk, rfl, rfl, HQ⟩ := hrel
              have HF5 := Lib.hid (H5.out.comp HQ.out)
              by_cases hlt : k < c
              · have hjr : k < T.length := by rw [HLn.out]; omega
                have hpos : 0 < T.length := by omega
                obtain ⟨g1, d1, e1⟩ := toks_form8 HV1.out hpos
                injection e1 with e1 _ e1'
                subst e1 e1'
                have p := HV1.out.fr HF5.out
                have p1 := tok_cell8 p rfl k hjr 1 (by omega)
                simp only [tokCells, List.getElem?_cons_zero, List.getElem?_cons_succ] at p1
                have hmem := takes_mem T _ (List.getElem_mem hjr)
                have htk := HTK.out
                have hLT := HLn.out
                have hX0 : 0 < T[k].text.length := good_pos (HG.out _ (List.getElem_mem hjr))
                have hmore := backB_more T k hjr
                have hsz := backB_size T k
                have hsz2 := backB_size T (k + 1)
                obtain ⟨X, hX⟩ : ∃ X : ByteArray, (⟨T[k].text.toArray⟩ : ByteArray) = X := ⟨_, rfl⟩
                have hXs : X.size = T[k].text.length := by rw [← hX]; simp [ByteArray.size]
                rw [hX] at p1 hmore
                rw [← hXs] at hX0 hmem
                have sa : ∀ w, (Op.stringOp .add (backB T k) X).run Tryz.prog w = .ok (.string (backB T k ++ X)) w := fun w => run_string_add_sum w _ _ (by omega)
                have sb : ∀ w, (Op.stringOp .add (backB T k ++ X) ⟨#[32]⟩).run Tryz.prog w = .ok (.string (backB T (k + 1))) w := fun w => by
                  rw [← hmore]
                  exact run_string_add_sum w _ _ (by rw [ByteArray.size_append]; have : (⟨#[32]⟩ : ByteArray).size = 1 := rfl; omega)
                have i0 : (0 : Int) ≤ (k : Int) := by omega
                have i1 : (k : Int) < (c : Int) := by omega
                have i2 : (k : Int) < (L : Int) := by omega
                clear p hjr hpos hsz hsz2 hmem htk hmore hXs hX hLT HF5
                go_wp2
                go_roundw
                case rel => exact ⟨k + 1, by omega, rfl, by go_num, HQ⟩
                case measure => simp [intOf]; omega
              · obtain rfl : k = c := by omega
                have i1 : ¬ ((k : Int) < (k : Int)) := by omega
                clear HQ
                go_wp2_with fail
                refine (H2.out _ (HW.out.fr (HF3.out.comp HF5.out))).mono ?_
                rintro e w6 ⟨vb, rfl, h6, f6⟩
                obtain ⟨nc1, nc2, nb1, nb2, rfl⟩ := h6.form
                generalize M'.cons.length = nc'
                generalize M'.binds.length = nb'
                have HF6 := Lib.hid (HF5.out.comp f6)
                have hk0 : (0 : Int) ≤ (k : Int) := by omega
                have hkL : (k : Int) ≤ (L : Int) := by omega
                have hLc : L ≤ c1 := by
                  obtain ⟨_, _, e, q, _⟩ := toks_row HV1.out
                  cases e
                  have := HLn.out
                  omega
                have hkc : (k : Int) ≤ (c1 : Int) := by omega
                clear h6 f6
                go_wp2_with fail
                obtain ⟨U, hU⟩ : ∃ U, w6.alloc (.cells #[.slice nc1 nc' nc2, .slice nb1 nb' nb2] 26) = U := ⟨_, rfl⟩
                have fU : Fr Nil w6 U := by rw [← hU]; exact frA
                rw [hU]
                have HFU := Lib.hid (HF6.out.comp fU)
                clear hU fU
                refine (H3.out _ HFU.out).mono ?_
                rintro e w7 ⟨vk, rfl, h7, f7⟩
                obtain ⟨oc1, oc2, ob1, ob2, rfl⟩ := h7.form
                generalize Mk.cons.length = nk'
                generalize Mk.binds.length = nkb
                have HF7 := Lib.hid (HFU.out.comp f7)
                clear h7 f7
                by_cases hh : hK = 0
                · subst hh
                  obtain ⟨hG, hT⟩ := HPK.out.1 rfl
                  subst hG
                  by_cases hk1 : k = 0
                  · subst hk1
                    go_wp2
                    go_ret
                    exact ⟨rfl, HF3.out.comp (HF7.out.comp (by exact frA))⟩
                  · obtain ⟨t, ht, htt⟩ := hT.resolve_left hk1
                    obtain ⟨g1, d1, e1⟩ := toks_form8 HV1.out (by have := HLn.out; omega)
                    injection e1 with e1 _ e1'
                    subst e1 e1'
                    have hjr : k - 1 < T.length := by have := HLn.out; omega
                    have p := HV1.out.fr HF7.out
                    have p1 := tok_cell8 p rfl (k - 1) hjr 1 (by omega)
                    rw [List.getElem?_eq_getElem hjr] at ht
                    have et : T[k - 1] = t := Option.some.inj ht
                    rw [et] at p1
                    simp only [tokCells, List.getElem?_cons_zero, List.getElem?_cons_succ, htt] at p1
                    obtain ⟨k', rfl⟩ : ∃ k', k = k' + 1 := ⟨k - 1, by omega⟩
                    simp only [Nat.add_sub_cancel] at p1
                    have i6 : ¬ ((k' : Int) + 1 = 0) := by omega
                    have i7 : IntKind.i64.wrap ((k' : Int) + 1 - 1) = (k' : Int) := by rw [IntKind.wrap_i64]; omega
                    have i8 : (0 : Int) ≤ (k' : Int) := by omega
                    have i9 : (k' : Int) < (L : Int) := by omega
                    have l1 := World.block_lt_of_cell? _ _ p1
                    clear p hjr et ht hT
                    go_wp2
                    go_ret
                    exact ⟨rfl, HF3.out.comp (HF7.out.comp (by exact frA))⟩
                · obtain ⟨hG, hLN⟩ := HPK.out.2 hh
                  subst hG hLN
                  have i6 : ¬ ((hK : Int) = 0) := by omega
                  have d6 : ((hK : Int) == 0) = false := by simpa using i6
                  go_wp2
                  go_ret
                  exact ⟨rfl, HF3.out.comp (HF7.out.comp (by exact frA))⟩
          · have i5 : (L : Int) ≤ cut := by omega
            go_wp2
            go_ret
            exact ⟨rfl, HF3.out.comp (H5.out.comp (by exact frA))⟩
      · have d1 : (E1 == 0) = false := by simpa using hE
        go_wp2
        go_ret
        exact ⟨rfl, HF3.out.comp (H5.out.comp (by exact frA))⟩
    · have d1 : (er == 0) = false := by simpa using her
      go_wp2
      go_ret
      exact ⟨rfl, HF3.out.comp (H5.out.comp (by exact frA))⟩
  · have t1 : (3000 : Int) < (s.size : Int) := by omega
    go_enter Tryz.func6, Tryz.ntmps6
    go_wp2_with fail
    refine (HA.out).mono ?_
    rintro e w1 ⟨rfl, f1⟩
    go_wp2
    go_ret
    exact ⟨rfl, by exact frA⟩
end Go.Proofs.YtlnmicddobgppaaGreatDoor
