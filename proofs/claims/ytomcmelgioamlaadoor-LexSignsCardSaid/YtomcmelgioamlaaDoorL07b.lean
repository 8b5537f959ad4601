/-
  Layer 7: two signs side by side. Conditions: the library's variables.
-/
import Derived.Test.YtomcmelgioamlaaDoorL07
namespace Go.Proofs.YtomcmelgioamlaaDoor
set_option linter.unusedSimpArgs false
set_option linter.unusedVariables false
open Go.RowKit

def allL : List (List UInt8) := [[43], [45], [42], [47], [37], [61, 61], [60], [43, 46], [45, 46], [42, 46], [47, 46], [61, 61, 46], [60, 46], [40], [41], [123], [125], [59], [61], [45, 62]]
theorem two_signs : ∀ x ∈ allL, ∀ y ∈ allL, (lexF (x ++ [32] ++ y)).err = 0 ∧ ((lexF (x ++ [32] ++ y)).toks.map (·.text)) = [x, y] := by decide +kernel
theorem sizeAll : (Tryd.prog.info? 41).map (·.size) = some 20 := by kernel_rfl
theorem all_size : (strs allL).size = 20 := by kernel_rfl
theorem all_cells : (strs allL).all (·.oneCell') = true := by kernel_rfl
theorem all_len : allL.length = 20 := by decide
theorem all_get (k : Nat) (hk : k < 20) : (strs allL)[k]? = some (.string ⟨(allL[k]'(by rw [all_len]; exact hk)).toArray⟩) := by
  have h : k = 0 ∨ k = 1 ∨ k = 2 ∨ k = 3 ∨ k = 4 ∨ k = 5 ∨ k = 6 ∨ k = 7 ∨ k = 8 ∨ k = 9 ∨ k = 10 ∨ k = 11 ∨ k = 12 ∨ k = 13 ∨ k = 14 ∨ k = 15 ∨ k = 16 ∨ k = 17 ∨ k = 18 ∨ k = 19 := by omega
  rcases h with rfl | rfl | rfl | rfl | rfl | rfl | rfl | rfl | rfl | rfl | rfl | rfl | rfl | rfl | rfl | rfl | rfl | rfl | rfl | rfl
  all_goals rfl
theorem all_short : ∀ x ∈ allL, x.length ≤ 3 := by decide
theorem rem20 (a : Nat) (ha : a < 256) : (a : Int).tmod 20 = ((a % 20 : Nat) : Int) := by
  have key : ∀ a : Nat, a < 256 → (a : Int).tmod 20 = ((a % 20 : Nat) : Int) := by decide +kernel
  exact key a ha
set_option maxRecDepth 100000 in
theorem lexSigns_any (a b : Nat) (w : World) (hW : LibW w) (ha : a < 256) (hb : b < 256) : Calls Tryd.prog 9 #[.int .u8 a, .int .u8 b] w fun e w' => e = .returned (.bool true) ∧ Fr Nil w w' := by
  have hav := awake_any w hW
  have HA := Lib.hid hav
  have HW := Lib.hid hW
  clear hav hW
  go_enter Tryd.func9, Tryd.ntmps9
  go_wp2_with fail
  refine (HA.out).mono ?_
  rintro e w1 ⟨rfl, f1⟩
  go_wp2_with (first
    | (refine wpList_build rfl 41 _ rfl (by kernel_rfl) ?_; generalize hX : Option.getD (Program.built _ _ _) _ = X; obtain rfl : X = strs allL := (by rw [← hX]; kernel_rfl); clear hX)
    | (refine wpList_store_row rfl 41 (.tmp 5) (.tmp 19) rfl w1.heap.size (strs allL) rfl rfl 41 _ (heap_alloc_new w1 _) (sizeAll.trans (congrArg some all_size.symm)) ((by kernel_rfl : (20 : Nat) = 20).trans all_size.symm) all_cells ?_))
  obtain ⟨V, hV⟩ : ∃ V, V = (w1.alloc (.cells #[.string ⟨#[]⟩, .string ⟨#[]⟩, .string ⟨#[]⟩, .string ⟨#[]⟩, .string ⟨#[]⟩, .string ⟨#[]⟩, .string ⟨#[]⟩, .string ⟨#[]⟩, .string ⟨#[]⟩, .string ⟨#[]⟩, .string ⟨#[]⟩, .string ⟨#[]⟩, .string ⟨#[]⟩, .string ⟨#[]⟩, .string ⟨#[]⟩, .string ⟨#[]⟩, .string ⟨#[]⟩, .string ⟨#[]⟩, .string ⟨#[]⟩, .string ⟨#[]⟩] 41)).setRow w1.heap.size (strs allL) := ⟨_, rfl⟩
  rw [← hV]
  have r1 : Blk V w1.heap.size (strs allL) 41 := by rw [hV]; exact setRow_heap _ _ _ _ _ _ (heap_alloc_new w1 _)
  have fV : Fr Nil w V := by
    rw [hV]
    exact (f1.alloc _).grown (row := some w1.heap.size) ⟨rfl, rfl, rfl, by simp, fun k _ hk => setRow_other _ _ _ _ (fun e => hk (by rw [e]))⟩ (fun k q hk => by cases q; have := f1.size; omega)
  clear hV f1
  have e1 := rem20 a ha
  have e2 := rem20 b hb
  have k1 : a % 20 < 20 := Nat.mod_lt _ (by decide)
  have k2 : b % 20 < 20 := Nat.mod_lt _ (by decide)
  generalize a % 20 = i at *
  generalize b % 20 = j at *
  have c1 := r1.cell i
  have c2 := r1.cell j
  rw [all_get i k1] at c1
  rw [all_get j k2] at c2
  have m1 : allL[i]'(by rw [all_len]; exact k1) ∈ allL := List.getElem_mem _
  have m2 : allL[j]'(by rw [all_len]; exact k2) ∈ allL := List.getElem_mem _
  generalize allL[i]'(by rw [all_len]; exact k1) = x at *
  generalize allL[j]'(by rw [all_len]; exact k2) = y at *
  have tw := two_signs x m1 y m2
  have s1 := all_short x m1
  have s2 := all_short y m2
  obtain ⟨X, hX⟩ : ∃ X : ByteArray, (⟨x.toArray⟩ : ByteArray) = X := ⟨_, rfl⟩
  obtain ⟨Y, hY⟩ : ∃ Y : ByteArray, (⟨y.toArray⟩ : ByteArray) = Y := ⟨_, rfl⟩
  rw [hX] at c1
  rw [hY] at c2
  have hXl : X.data.toList = x := by rw [← hX]
  have hYl : Y.data.toList = y := by rw [← hY]
  have z1 : (X ++ ⟨#[32]⟩ ++ Y).data.toList = x ++ [32] ++ y := by simp [ByteArray.data_append, hXl, hYl]
  have z2 : (X ++ Y).data.toList = x ++ y := by simp [ByteArray.data_append, hXl, hYl]
  have zs1 : (X ++ ⟨#[32]⟩ ++ Y).size ≤ 100000 := by rw [← size_of, z1]; simp; omega
  have zs2 : (X ++ Y).size ≤ 100000 := by rw [← size_of, z2]; simp; omega
  have y1 : X.size ≤ 3 := by rw [← size_of, hXl]; exact s1
  have y2 : Y.size ≤ 3 := by rw [← size_of, hYl]; exact s2
  have sa1 : ∀ w, (Op.stringOp .add X ⟨#[32]⟩).run Tryd.prog w = .ok (.string (X ++ ⟨#[32]⟩)) w := fun w => run_string_add_sum w X ⟨#[32]⟩ (by have : (⟨#[32]⟩ : ByteArray).size = 1 := rfl; omega)
  have sa2 : ∀ w, (Op.stringOp .add (X ++ ⟨#[32]⟩) Y).run Tryd.prog w = .ok (.string (X ++ ⟨#[32]⟩ ++ Y)) w := fun w => run_string_add_sum w _ Y (by rw [ByteArray.size_append]; have : (⟨#[32]⟩ : ByteArray).size = 1 := rfl; omega)
  have sa3 : ∀ w, (Op.stringOp .add X Y).run Tryd.prog w = .ok (.string (X ++ Y)) w := fun w => run_string_add_sum w X Y (by omega)
  have h1 := fun w h => lex_any (X ++ ⟨#[32]⟩ ++ Y) w h zs1
  have h2 := fun w h => lex_any (X ++ Y) w h zs2
  have h3 := fun w => rlex_any (X ++ Y) w (by omega)
  have hle := lexF_size (x ++ y)
  rw [z1] at h1
  rw [z2] at h2 h3
  obtain ⟨R1, hR1⟩ : ∃ R1, lexF (x ++ [32] ++ y) = R1 := ⟨_, rfl⟩
  obtain ⟨R2, hR2⟩ : ∃ R2, lexF (x ++ y) = R2 := ⟨_, rfl⟩
  rw [hR1] at h1 tw
  rw [hR2] at h2 h3 hle
  obtain ⟨T1, T2, hT, ht1, ht2⟩ : ∃ T1 T2 : TokV, R1.toks = [T1, T2] ∧ T1.text = x ∧ T2.text = y := by
    have q := tw.2
    match h : R1.toks with
    | [] => rw [h] at q; simp at q
    | [t] => rw [h] at q; simp at q
    | [t, u] => rw [h] at q; simp at q; exact ⟨t, u, rfl, q.1, q.2⟩
    | t :: u :: v :: l => rw [h] at q; simp at q
  rw [tw.1, hT] at h1
  have H1 := Lib.hid h1
  have H2 := Lib.hid h2
  have H3 := Lib.hid h3
  have HT := Lib.hid (And.intro ht1 (And.intro ht2 (And.intro hX hY)))
  have i0 : (0 : Int) ≤ (i : Int) := by omega
  have i1 : (i : Int) < 20 := by omega
  have j0 : (0 : Int) ≤ (j : Int) := by omega
  have j1 : (j : Int) < 20 := by omega
  clear h1 h2 h3 ht1 ht2 hX hY hXl hYl z1 z2 zs1 zs2 hR1 hR2 hT tw s1 s2 m1 m2 k1 k2 HA ha hb
  go_wp2
  go_quiet (fail)
  have f2 := fV.drewN nq
  clear c1 c2 r1 e1 e2
  go_wp2_with fail
  refine (H1.out _ (HW.out.fr f2)).mono ?_
  rintro e w3 ⟨v1, rfl, hv1, f3⟩
  have f23 : Fr Nil w w3 := f2.trans f3 (fun _ _ q => q)
  go_wp2_with fail
  refine (H2.out _ (HW.out.fr f23)).mono ?_
  rintro e w4 ⟨v2, rfl, hv2, f4⟩
  have f24 : Fr Nil w w4 := f23.trans f4 (fun _ _ q => q)
  go_wp2_with fail
  refine (H3.out _).mono ?_
  rintro e w5 ⟨v3, rfl, hv3, f5⟩
  have f25 : Fr Nil w w5 := f24.trans f5 (fun _ _ q => q)
  obtain ⟨g, cap, rfl⟩ := toks_form hv1 (by simp)
  have hv := (hv1.fr f4).fr f5
  have d1 := tok_cell hv rfl 0 (by simp) 1 (by omega)
  have d2 := tok_cell hv rfl 1 (by simp) 1 (by omega)
  simp [tokCells, HT.out.1, HT.out.2.1, HT.out.2.2.1, HT.out.2.2.2] at d1 d2
  have HS := Lib.hid (same_any R2.toks v2 v3 _ _ w5 (hv2.fr f5) hv3 hle)
  clear hv hv1 hv2 hv3 H1 H2 H3 hle f3 f4 f5 f2 f23 f24 fV
  simp only [List.length_cons, List.length_nil]
  go_wp2_with (first
    | (go_at_call 13; refine (HS.out).mono ?_; rintro e w6 ⟨rfl, f6⟩)
    | fail)
  go_ret
  exact ⟨rfl, by (repeat (first | (with_reducible exact Fr.refl _ _) | (with_reducible assumption) | (with_reducible exact Fr.of_nil (by assumption)) | (with_reducible refine Fr.drew ?_) | (with_reducible refine Fr.drewN ?_ _) | (with_reducible refine Fr.alloc ?_ _) | (with_reducible refine Fr.set ?_ _ _ (by first | (intros; omega) | (simp; done) | (simp; omega))) | (with_reducible refine Fr.via ?_ (by assumption)) | (with_reducible refine Fr.comp ?_ (by assumption))))⟩
theorem wf_u8 {a : Int} (h : (Lit.int .u8 a).wf = true) : 0 ≤ a ∧ a < 256 := by
  have e1 : IntKind.u8.min = 0 := rfl
  have e2 : IntKind.u8.max = 255 := rfl
  simp [Lit.wf, e1, e2] at h
  omega
theorem lexSigns_int (a b : Int) (w : World) (hW : LibW w) (ha : 0 ≤ a ∧ a < 256) (hb : 0 ≤ b ∧ b < 256) : Calls Tryd.prog 9 #[.int .u8 a, .int .u8 b] w fun e w' => e = .returned (.bool true) ∧ Fr Nil w w' := by
  obtain ⟨m, rfl⟩ := Int.eq_ofNat_of_zero_le ha.1
  obtain ⟨n, rfl⟩ := Int.eq_ofNat_of_zero_le hb.1
  exact lexSigns_any m n w hW (by omega) (by omega)
end Go.Proofs.YtomcmelgioamlaaDoor
