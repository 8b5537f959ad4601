/-
  Layer 7: tokens' texts, a blank between each two. Conditions: the library's variables.
-/
import Derived.Test.YtomcmelgioamlaaDoorL07
import Derived.Test.YtomcmelgioamlaaDoorLexJ
namespace Go.Proofs.YtomcmelgioamlaaDoor
set_option linter.unusedSimpArgs false
set_option linter.unusedVariables false
open Go.RowKit

def backB (T : List TokV) (k : Nat) : ByteArray := ⟨(backT (T.take k)).toArray⟩
theorem backB_zero (T : List TokV) : backB T 0 = ⟨#[]⟩ := rfl
theorem backB_more (T : List TokV) (k : Nat) (h : k < T.length) : backB T k ++ ⟨T[k].text.toArray⟩ ++ ⟨#[32]⟩ = backB T (k + 1) := by
  apply bytes_eq
  unfold backB
  have e : backT (T.take (k + 1)) = backT (T.take k) ++ (T[k].text ++ [32]) := by
    rw [List.take_succ_eq_append_getElem h]
    unfold backT
    rw [List.flatMap_append]
    simp
  rw [e]
  simp [ByteArray.data_append]
theorem good_pos {t : TokV} (h : GoodT t) : 0 < t.text.length := by
  obtain ⟨ln, h⟩ := h
  have := shape_again h 1
  cases q : t.text with
  | nil => rw [q] at this; simp [oneF] at this
  | cons c r => simp
theorem takes_take (T : List TokV) (k : Nat) : takes (T.take k) ≤ takes T := by
  conv => rhs; rw [← List.take_append_drop k T]
  unfold takes
  rw [List.map_append, List.sum_append]
  omega
theorem backB_size (T : List TokV) (k : Nat) : (backB T k).size ≤ takes T + T.length := by
  have h1 : (backB T k).size = (backT (T.take k)).length := by simp [backB, ByteArray.size]
  rw [h1, takes_back]
  have := takes_take T k
  have h2 : (T.take k).length ≤ T.length := List.length_take_le' _ _
  omega
set_option maxRecDepth 100000 in
set_option maxHeartbeats 4000000 in
theorem lexBack_any (s : ByteArray) (w : World) (hW : LibW w) : Calls Tryd.prog 4 #[.string s] w fun e w' => e = .returned (.bool true) ∧ Fr Nil w w' := by
  have hav := awake_any w hW
  have HA := Lib.hid hav
  have HW := Lib.hid hW
  clear hav hW
  by_cases hs : s.size ≤ 5000
  · have t1 : ¬ (5000 : Int) < (s.size : Int) := by omega
    have h1 := fun w h => lex_any s w h (by omega)
    have hg := lexF_good s.data.toList
    have hle := lexF_size s.data.toList
    have htk := lexF_takes s.data.toList
    have her := (lexF_err s.data.toList).2
    rw [size_of] at htk
    obtain ⟨⟨T, er, ln⟩, hR⟩ : ∃ R, lexF s.data.toList = R := ⟨_, rfl⟩
    simp only [hR] at h1 hg hle htk her
    clear hR
    have H1 := Lib.hid h1
    clear h1
    by_cases her0 : er = 0
    · subst her0
      have hz : (backB T T.length).data.toList = backT T := by
        unfold backB
        rw [List.take_length]
      have h2 := fun w h => lex_any (backB T T.length) w h (by have := backB_size T T.length; omega)
      rw [hz, lexF_back T hg hle] at h2
      simp only at h2
      have H2 := Lib.hid h2
      have HG := Lib.hid hg
      clear h2 hz her hg
      go_enter Tryd.func4, Tryd.ntmps4
      go_wp2_with fail
      refine (HA.out).mono ?_
      rintro e w1 ⟨rfl, f1⟩
      go_wp2_with fail
      refine (H1.out _ (HW.out.fr f1)).mono ?_
      rintro e w3 ⟨v1, rfl, hv1, f3⟩
      have f23 : Fr Nil w w3 := f1.trans f3 (fun _ _ q => q)
      obtain ⟨L, hL⟩ : ∃ L, T.length = L := ⟨_, rfl⟩
      obtain ⟨a1, c1, rfl⟩ := owns_shape hv1
      rw [hL]
      have HV1 := Lib.hid hv1
      have HLn := Lib.hid hL
      have hL4 : L ≤ 4096 := by omega
      clear hv1 hL f1 f3 HA H1 hle
      have HTK := Lib.hid htk
      clear htk
      go_wp2_with fail
      go_loopw [6, 7] (fun sv iv wr => ∃ k : Nat, k ≤ L ∧ sv = .string (backB T k) ∧ iv = .int .i64 k ∧ Fr Nil w3 wr) (fun _ iv _ => L - (intOf iv).toNat)
      case atStart => exact ⟨0, by omega, rfl, rfl, Fr.refl _ _⟩
      case round =>
        obtain ⟨k, hk, rfl, rfl, hw⟩ := hrel
        by_cases hlt : k < L
        · have hjr : k < T.length := by rw [HLn.out]; exact hlt
          have hpos : 0 < T.length := by omega
          obtain ⟨g1, d1, e1⟩ := toks_form HV1.out hpos
          injection e1 with e1 _ e1'
          subst e1 e1'
          have p := HV1.out.fr hw
          have p1 := tok_cell p rfl k hjr 1 (by omega)
          simp only [tokCells, List.getElem?_cons_zero, List.getElem?_cons_succ] at p1
          have hmem := takes_mem T _ (List.getElem_mem hjr)
          have htk := HTK.out
          have hX0 : 0 < T[k].text.length := good_pos (HG.out _ (List.getElem_mem hjr))
          have hmore := backB_more T k hjr
          have hsz := backB_size T k
          have hsz2 := backB_size T (k + 1)
          obtain ⟨X, hX⟩ : ∃ X : ByteArray, (⟨T[k].text.toArray⟩ : ByteArray) = X := ⟨_, rfl⟩
          have hXs : X.size = T[k].text.length := by rw [← hX]; simp [ByteArray.size]
          rw [hX] at p1 hmore
          rw [← hXs] at hX0 hmem
          have sa : ∀ w, (Op.stringOp .add (backB T k) X).run Tryd.prog w = .ok (.string (backB T k ++ X)) w := fun w => run_string_add_sum w _ _ (by omega)
          have sb : ∀ w, (Op.stringOp .add (backB T k ++ X) ⟨#[32]⟩).run Tryd.prog w = .ok (.string (backB T (k + 1))) w := fun w => by
            rw [← hmore]
            exact run_string_add_sum w _ _ (by rw [ByteArray.size_append]; have : (⟨#[32]⟩ : ByteArray).size = 1 := rfl; omega)
          have i0 : (0 : Int) ≤ (k : Int) := by omega
          have i1 : (k : Int) < (L : Int) := by omega
          have i2 : ¬ X = ByteArray.empty := fun q => by rw [q] at hX0; simp at hX0
          have i3 : ¬ (s.size : Int) < (X.size : Int) := by omega
          clear p hjr hpos hsz hsz2 hmem htk hmore hXs hX
          go_wp2
          go_roundw
          case rel => exact ⟨k + 1, by omega, rfl, by go_num, hw⟩
          case measure => simp [intOf]; omega
        · obtain rfl : k = L := by omega
          have i1 : ¬ ((k : Int) < (k : Int)) := by omega
          have HLn' := HLn.out
          subst HLn'
          go_wp2_with fail
          refine (H2.out _ (HW.out.fr (f23.trans hw (fun _ _ q => q)))).mono ?_
          rintro e w4 ⟨v2, rfl, hv2, f4⟩
          have hv1' := (HV1.out.fr hw).fr f4
          have f24 : Fr Nil w w4 := (f23.trans hw (fun _ _ q => q)).trans f4 (fun _ _ q => q)
          obtain ⟨a2, c2, rfl⟩ := owns_shape hv2
          rw [List.length_map]
          obtain ⟨L, hL⟩ : ∃ L, T.length = L := ⟨_, rfl⟩
          rw [hL]
          have HV1' := Lib.hid hv1'
          have HV2 := Lib.hid hv2
          have HL := Lib.hid hL
          rw [hL] at hL4
          clear hv1' hv2 hL HV1 HLn H2 hw f23 f4 i1 hk
          go_wp2_with fail
          go_loopg [11] L (fun g iv wr => ∃ j : Nat, g = L - j ∧ j ≤ L ∧ iv = .int .i64 j ∧ Fr Nil w4 wr)
          case atStart => exact ⟨0, rfl, by omega, rfl, Fr.refl _ _⟩
          case round =>
            obtain ⟨j, rfl, hj, rfl, hw4⟩ := hrel
            by_cases hjl : j < L
            · have hjr : j < T.length := by rw [HL.out]; exact hjl
              have hpos : 0 < T.length := by omega
              obtain ⟨g1, d1, e1⟩ := toks_form HV1'.out hpos
              obtain ⟨g2, d2, e2⟩ := toks_form HV2.out (by simpa using hpos)
              injection e1 with e1 _ e1'
              injection e2 with e2 _ e2'
              subst e1 e2 e1' e2'
              have p := HV1'.out.fr hw4
              have q := HV2.out.fr hw4
              have p0 := tok_cell p rfl j hjr 0 (by omega)
              have p1 := tok_cell p rfl j hjr 1 (by omega)
              have p2 := tok_cell p rfl j hjr 2 (by omega)
              have p3 := tok_cell p rfl j hjr 3 (by omega)
              have p4 := tok_cell p rfl j hjr 4 (by omega)
              have q0 := tok_cell q rfl j (by simpa using hjr) 0 (by omega)
              have q1 := tok_cell q rfl j (by simpa using hjr) 1 (by omega)
              have q2 := tok_cell q rfl j (by simpa using hjr) 2 (by omega)
              have q3 := tok_cell q rfl j (by simpa using hjr) 3 (by omega)
              have q4 := tok_cell q rfl j (by simpa using hjr) 4 (by omega)
              simp only [List.getElem_map, firstL, tokCells, Nat.add_zero, List.getElem?_cons_zero, List.getElem?_cons_succ] at p0 p1 p2 p3 p4 q0 q1 q2 q3 q4
              generalize T[j].kind = t0 at *
              generalize (⟨T[j].text.toArray⟩ : ByteArray) = t1 at *
              generalize T[j].flt = t2 at *
              generalize (T[j].bits : Int) = t3 at *
              generalize T[j].line = t4 at *
              have i0 : (0 : Int) ≤ (j : Int) := by omega
              have i1 : (j : Int) < (L : Int) := by omega
              have lt1 : g1 < wr.heap.size := World.block_lt_of_cell? wr _ p0
              have lt2 : g2 < wr.heap.size := World.block_lt_of_cell? wr _ q0
              clear p q hjr hpos
              go_wp2_with fail
              go_quiet (fail)
              go_wp2
              go_roundg (L - (j + 1))
              case rel => exact ⟨j + 1, rfl, by omega, by go_num, by (repeat (first | (with_reducible exact Fr.refl _ _) | (with_reducible assumption) | (with_reducible exact Fr.of_nil (by assumption)) | (with_reducible refine Fr.drew ?_) | (with_reducible refine Fr.drewN ?_ _) | (with_reducible refine Fr.alloc ?_ _) | (with_reducible refine Fr.set ?_ _ _ (by first | (intros; omega) | (simp; done) | (simp; omega))) | (with_reducible refine Fr.via ?_ (by assumption)) | (with_reducible refine Fr.comp ?_ (by assumption))))⟩
              case measure => omega
            · obtain rfl : j = L := by omega
              have i1 : ¬ ((j : Int) < (j : Int)) := by omega
              go_wp2
              go_ret
              exact ⟨rfl, by (repeat (first | (with_reducible exact Fr.refl _ _) | (with_reducible assumption) | (with_reducible exact Fr.of_nil (by assumption)) | (with_reducible refine Fr.drew ?_) | (with_reducible refine Fr.drewN ?_ _) | (with_reducible refine Fr.alloc ?_ _) | (with_reducible refine Fr.set ?_ _ _ (by first | (intros; omega) | (simp; done) | (simp; omega))) | (with_reducible refine Fr.via ?_ (by assumption)) | (with_reducible refine Fr.comp ?_ (by assumption))))⟩
    · have hT := her her0
      subst hT
      have her2 : (er != 0) = true := by simpa using her0
      go_enter Tryd.func4, Tryd.ntmps4
      go_wp2_with fail
      refine (HA.out).mono ?_
      rintro e w1 ⟨rfl, f1⟩
      go_wp2_with fail
      refine (H1.out _ (HW.out.fr f1)).mono ?_
      rintro e w3 ⟨v1, rfl, hv1, f3⟩
      obtain ⟨a1, c1, rfl⟩ := owns_shape hv1
      clear hv1
      rw [List.length_nil]
      go_wp2
      go_ret
      exact ⟨rfl, by (repeat (first | (with_reducible exact Fr.refl _ _) | (with_reducible assumption) | (with_reducible exact Fr.of_nil (by assumption)) | (with_reducible refine Fr.drew ?_) | (with_reducible refine Fr.drewN ?_ _) | (with_reducible refine Fr.alloc ?_ _) | (with_reducible refine Fr.set ?_ _ _ (by first | (intros; omega) | (simp; done) | (simp; omega))) | (with_reducible refine Fr.via ?_ (by assumption)) | (with_reducible refine Fr.comp ?_ (by assumption))))⟩
  · have t1 : (5000 : Int) < (s.size : Int) := by omega
    go_enter Tryd.func4, Tryd.ntmps4
    go_wp2_with fail
    refine (HA.out).mono ?_
    rintro e w1 ⟨rfl, f1⟩
    go_wp2
    go_ret
    exact ⟨rfl, by (repeat (first | (with_reducible exact Fr.refl _ _) | (with_reducible assumption) | (with_reducible exact Fr.of_nil (by assumption)) | (with_reducible refine Fr.drew ?_) | (with_reducible refine Fr.drewN ?_ _) | (with_reducible refine Fr.alloc ?_ _) | (with_reducible refine Fr.set ?_ _ _ (by first | (intros; omega) | (simp; done) | (simp; omega))) | (with_reducible refine Fr.via ?_ (by assumption)) | (with_reducible refine Fr.comp ?_ (by assumption))))⟩
end Go.Proofs.YtomcmelgioamlaaDoor
