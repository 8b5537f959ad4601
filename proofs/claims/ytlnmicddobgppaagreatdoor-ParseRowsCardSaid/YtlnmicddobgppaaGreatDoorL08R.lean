/-
  ParseRows: a token with so many names behind it. Conditions: a text that a process's addresses bear, and the library's variables.
-/
import Derived.Test.YtlnmicddobgppaaGreatDoorHeldBy
import Derived.Test.YtlnmicddobgppaaGreatDoorL08a
import Derived.Test.YtlnmicddobgppaaGreatDoorPjX
namespace Go.Proofs.YtlnmicddobgppaaGreatDoor
set_option linter.unusedSimpArgs false
set_option linter.unusedVariables false
open Go.RowKit
theorem flatT_get9 (l : List TokV) (i : Nat) (hi : i < l.length) (k : Nat) (hk : k < 5) : (flatT l)[i * 5 + k]? = (tokCells l[i])[k]? := flatT_get8 l i hi k hk
theorem tok_cell8 {base g cap : Nat} {w : World} {l : List TokV} {n : Nat} (h : ToksAt base w (.slice (some ⟨g, 0, none⟩) n cap) l) (hn : n = l.length) (i : Nat) (hi : i < l.length) (k : Nat) (hk : k < 5) : w.cell? ⟨g, i * 5 + k, none⟩ = (tokCells l[i])[k]? := by
  subst hn
  rw [World.ownsRow.cellAt h (i * 5 + k) (by omega)]
  exact flatT_get9 l i hi k hk
theorem toks_form8 {base : Nat} {w : World} {v : Value} {l : List TokV} (h : ToksAt base w v l) (hn : 0 < l.length) : ∃ g cap, v = .slice (some ⟨g, 0, none⟩) l.length cap := by
  obtain ⟨g, cap, e⟩ := Joins.ownsRow_form h hn
  exact ⟨g, cap, e⟩
theorem MVal.body {X : Nat → Prop} {w : World} {v : Value} {c : List UInt8} {ps : List (List UInt8)} {E : TE} (h : MVal X w v ⟨[], [.mk c ps E]⟩) : ∃ c1 c2 b off b2 cs, v = .agg #[.slice c1 0 c2, .slice (some ⟨b, off, none⟩) 1 b2] ∧ EAt (fun _ => False) w cs E ∧ ∀ j u, cs[j]? = some u → w.cell? ⟨b, off + 2 + j, none⟩ = some u := by
  obtain ⟨cv, bv, cs, bs, rfl, h1, h2, h3, h4⟩ := h.free
  obtain ⟨c1, c2, rfl⟩ := h1.shape
  obtain ⟨b1, b2, rfl⟩ := h3.shape
  obtain ⟨b, off, rfl, _, hc⟩ := h3.at (i := 0) (by simp)
  obtain ⟨pn, c, ec, hr, he⟩ := h4 0 (by simp)
  rw [ec] at hc
  refine ⟨c1, c2, b, off, b2, c, rfl, he, fun j u hj => ?_⟩
  have := hc (j + 2) u (by simpa using hj)
  rw [show off + 0 * 10 + (j + 2) = off + 2 + j by omega] at this
  exact this
def rowsB (h : ByteArray) (k : Nat) : ByteArray := ⟨(102 :: 32 :: 61 :: 32 :: (h.data.toList ++ (List.replicate k [32, 120]).flatten)).toArray⟩
theorem rowsB_zero (h : ByteArray) : (⟨#[102, 32, 61, 32]⟩ : ByteArray) ++ h = rowsB h 0 := by
  apply bytes_eq
  unfold rowsB
  simp [ByteArray.data_append]
theorem rowsB_more (h : ByteArray) (k : Nat) : rowsB h k ++ ⟨#[32, 120]⟩ = rowsB h (k + 1) := by
  apply bytes_eq
  unfold rowsB
  rw [ByteArray.data_append, List.replicate_succ']
  simp
theorem names_flat : ∀ k : Nat, (List.replicate k [32, 120]).flatten ++ [59] = namesB k
  | 0 => rfl
  | k + 1 => by
    rw [List.replicate_succ, List.flatten_cons, List.append_assoc, names_flat k]
    rfl
theorem rowsB_end (h : ByteArray) (k : Nat) : rowsB h k ++ ⟨#[59]⟩ = ⟨(rowB h.data.toList k).toArray⟩ := by
  apply bytes_eq
  unfold rowsB rowB
  rw [ByteArray.data_append, ← names_flat k]
  simp
theorem rowsB_size (h : ByteArray) (k : Nat) : (rowsB h k).size = 4 + h.size + 2 * k := by
  have hf : ∀ k : Nat, (List.replicate k ([32, 120] : List UInt8)).flatten.length = 2 * k := fun k => by
    induction k with
    | zero => rfl
    | succ k ih => rw [List.replicate_succ, List.flatten_cons, List.length_append, ih]; simp only [List.length_cons, List.length_nil]; omega
  have : (rowsB h k).size = (102 :: 32 :: 61 :: 32 :: (h.data.toList ++ (List.replicate k [32, 120]).flatten)).length := by
    show (List.toArray _).size = _
    exact List.size_toArray
  rw [this]
  simp only [List.length_cons, List.length_append, hf]
  have := size_of h
  omega
/-- What is told of an expression as it is asked. -/
theorem rowIs_cells {w : World} {cs : List Value} {E : TE} (h : EAt (fun _ => False) w cs E) : ∃ (a0 : Option Addr) (n0 c0 : Nat) (a1 : Option Addr) (c1 : Nat) (a2 : Option Addr) (n2 c2 : Nat) (a3 : Option Addr) (n3 c3 : Nat), cs = [.int .i64 (E.kind : Int), .string ⟨E.name.toArray⟩, .bool E.flt, .int .u64 (E.bits : Int), .slice a0 n0 c0, .slice a1 E.kids.length c1, .slice a2 n2 c2, .slice a3 n3 c3] := by
  cases h with
  | mk kc bc ac be ae bp an hp hk hk2 hb hb1 hb2 hb3 ha ha1 ha2 ha3 =>
    obtain ⟨a0, c0, rfl⟩ := RowC.shape hp
    obtain ⟨a1, c1, rfl⟩ := hk.shape
    obtain ⟨a2, c2, rfl⟩ := hb.shape
    obtain ⟨a3, c3, rfl⟩ := ha.shape
    exact ⟨a0, _, c0, a1, c1, a2, _, c2, a3, _, c3, rfl⟩
set_option maxRecDepth 100000 in
set_option maxHeartbeats 8000000 in
theorem rows8_any (head : ByteArray) (K : Int) (w : World) (hW : LibW w) (hs : head.size ≤ 140737488355328) (hK0 : 0 ≤ K) (hK1 : K < 256) : Calls Tryz.prog 8 #[.string head, .int .u8 K] w fun e w' => e = .returned (.bool true) ∧ Fr Nil w w' := by
  have hav := awake8_any w hW
  have HA := Lib.hid hav
  have HW := Lib.hid hW
  clear hav hW
  obtain ⟨N, hN⟩ : ∃ N : Nat, (N : Int) = K.tmod 40 := ⟨(K.tmod 40).toNat, by rw [Int.tmod_eq_emod_of_nonneg hK0]; omega⟩
  have hN40 : N < 40 := by rw [Int.tmod_eq_emod_of_nonneg hK0] at hN; omega
  have hw8 : IntKind.u8.wrap (N : Int) = (N : Int) := by rw [IntKind.wrap_u8]; omega
  have hw64 : IntKind.i64.wrap (N : Int) = (N : Int) := by rw [IntKind.wrap_i64]; omega
  have hNs := hN.symm
  have h1 := fun w h => lex_any head w h hs
  have hgd := lexF_good head.data.toList
  obtain ⟨⟨T, er, ln⟩, hR⟩ : ∃ R, lexF head.data.toList = R := ⟨_, rfl⟩
  simp only [hR] at h1 hgd
  have H1 := Lib.hid h1
  have HG := Lib.hid hgd
  clear h1 hR hgd hN
  go_enter Tryz.func8, Tryz.ntmps8
  go_wp2_with fail
  refine (HA.out).mono ?_
  rintro e w1 ⟨rfl, f1⟩
  have HF1 := Lib.hid f1
  clear f1 HA
  go_wp2_with fail
  refine (H1.out _ (HW.out.fr HF1.out)).mono ?_
  rintro e w3 ⟨v1, rfl, hv1, f3⟩
  have HF3 := Lib.hid (HF1.out.comp f3)
  obtain ⟨L, hL⟩ : ∃ L, T.length = L := ⟨_, rfl⟩
  obtain ⟨a1, c1, rfl⟩ := owns_shape hv1
  rw [hL]
  have HV1 := Lib.hid hv1
  have HLn := Lib.hid hL
  clear hv1 hL f3 H1 HF1
  go_upto_region 5 with fail
  by_cases her : er = 0
  · subst her
    by_cases hL1 : L = 1
    · subst hL1
      obtain ⟨t, rfl⟩ : ∃ t, T = [t] := List.length_eq_one_iff.1 HLn.out
      obtain ⟨g1, d1, e1⟩ := toks_form8 HV1.out (by simp)
      injection e1 with e1 _ e1'
      subst e1 e1'
      have hgt := HG.out t (by simp)
      have p0 := tok_cell8 HV1.out rfl 0 (by simp) 0 (by omega)
      have p1 := tok_cell8 HV1.out rfl 0 (by simp) 1 (by omega)
      simp only [tokCells, List.getElem_cons_zero, List.getElem?_cons_zero, List.getElem?_cons_succ, Nat.zero_mul, Nat.zero_add] at p0 p1
      have l1 := World.block_lt_of_cell? _ _ p0
      obtain ⟨X, hX⟩ : ∃ X : ByteArray, X = ⟨t.text.toArray⟩ := ⟨_, rfl⟩
      rw [← hX] at p1
      by_cases h30 : head.size ≤ 30
      · have i30 : ¬ (30 : Int) < (head.size : Int) := by omega
        by_cases hXh : X = head
        · subst hXh
          have htx : t.text = X.data.toList := by rw [hX]
          have hrt := rows_tell hgt N (by omega)
          rw [htx] at hrt
          have q1 : (⟨#[102, 32, 61, 32]⟩ : ByteArray).size = 4 := rfl
          have q2 : (⟨#[32, 120]⟩ : ByteArray).size = 2 := rfl
          have q3 : (⟨#[59]⟩ : ByteArray).size = 1 := rfl
          have hrs := rowsB_size X
          have s0 : ∀ w, (Op.stringOp .add ⟨#[102, 32, 61, 32]⟩ X).run Tryz.prog w = .ok (.string (rowsB X 0)) w := fun w => by
            rw [← rowsB_zero]; exact run_string_add_sum w _ _ (by rw [q1]; omega)
          have sk : ∀ k, k < N → ∀ w, (Op.stringOp .add (rowsB X k) ⟨#[32, 120]⟩).run Tryz.prog w = .ok (.string (rowsB X (k + 1))) w := fun k hk w => by
            rw [← rowsB_more]; exact run_string_add_sum w _ _ (by rw [hrs, q2]; omega)
          have se : ∀ w, (Op.stringOp .add (rowsB X N) ⟨#[59]⟩).run Tryz.prog w = .ok (.string ⟨(rowB X.data.toList N).toArray⟩) w := fun w => by
            rw [← rowsB_end]; exact run_string_add_sum w _ _ (by rw [hrs, q3]; omega)
          have hd := fun w h => qparse_any ⟨(rowB X.data.toList N).toArray⟩ w h (by rw [← rowsB_end]; simp only [ByteArray.size_append, hrs, q3]; omega)
          have hd : ∀ w, LibW w → Calls Tryz.prog 11 #[.string ⟨(rowB X.data.toList N).toArray⟩] w fun r w' => ∃ v, r = .returned (.tuple #[v, .int .i64 (parseF (rowB X.data.toList N)).2.1, .int .i64 ((parseF (rowB X.data.toList N)).2.2 : Int)]) ∧ MVal (fun b => b < w.heap.size) w' v (parseF (rowB X.data.toList N)).1 ∧ Fr Nil w w' := hd
          have HD := Lib.hid (And.intro hd hrt)
          have HSK := Lib.hid (And.intro sk se)
          have HTX := Lib.hid htx
          obtain ⟨tk, htk⟩ : ∃ k, t.kind = k := ⟨_, rfl⟩
          rw [htk] at p0
          have HTK := Lib.hid htk
          clear hd hrt sk se hrs q1 q2 q3 hX htx hgt htk
          have HPP : Hid (∀ w', Fr Nil w3 w' → w'.cell? ⟨g1, 0, none⟩ = some (.int .i64 tk) ∧ w'.cell? ⟨g1, 1, none⟩ = some (.string X) ∧ g1 < w'.heap.size) := Lib.hid (fun w' f => ⟨f.cell p0 (fun q => q), f.cell p1 (fun q => q), f.lt l1⟩)
          go_wp2_with fail
          clear s0
          go_loopw [9, 10] (fun sv iv wr => ∃ k : Nat, k ≤ N ∧ sv = .string (rowsB X k) ∧ iv = .int .i64 k ∧ Hid (Fr Nil w3 wr)) (fun _ iv _ => N - (intOf iv).toNat)
          case atStart => exact ⟨0, by omega, rfl, rfl, Lib.hid (by exact frA)⟩
          case round =>
            obtain ⟨k, hk, rfl, rfl, HQ⟩ := hrel
            clear p0 p1 l1
            by_cases hlt : k < N
            · have i1 : (k : Int) < (N : Int) := by omega
              have c1 := HSK.out.1 k hlt
              go_wp2
              go_roundw
              case rel => exact ⟨k + 1, by omega, rfl, by go_num, HQ⟩
              case measure => simp [intOf]; omega
            · obtain rfl : k = N := by omega
              have i1 : ¬ ((k : Int) < (k : Int)) := by omega
              have se := HSK.out.2
              by_cases hkd : t.kind = 1 ∨ t.kind = 2 ∨ t.kind = 7 ∨ t.kind = 3
              · obtain ⟨E, hE, hR⟩ := HD.out.2.1 hkd
                have hc := HD.out.1
                rw [hE] at hc
                simp only at hc
                have HC := Lib.hid hc
                have HR := Lib.hid hR
                clear hc hE HD hR
                rw [HTK.out] at hkd
                go_wp2_with fail
                refine (HC.out _ (HW.out.fr (HF3.out.comp HQ.out))).mono ?_
                rintro e w5 ⟨v, rfl, hm, f5⟩
                obtain ⟨c1, c2, b, off, b2', cs, rfl, he, hcells⟩ := hm.body
                obtain ⟨a0, n0, e0, a1', e1, a2', n2, e2, a3', n3, e3, rfl⟩ := rowIs_cells he
                have y0 := hcells 0 _ rfl
                have y1 := hcells 1 _ rfl
                have y2 := hcells 2 _ rfl
                have y3 := hcells 3 _ rfl
                have y4 := hcells 4 _ rfl
                have y5 := hcells 5 _ rfl
                have y6 := hcells 6 _ rfl
                have y7 := hcells 7 _ rfl
                simp only [Nat.add_zero] at y0
                have l2 := World.block_lt_of_cell? _ _ y0
                obtain ⟨p0, p1, l1⟩ := HPP.out _ (HQ.out.comp f5)
                have HF5 := Lib.hid ((HF3.out.comp HQ.out).comp f5)
                have hR := HR.out
                unfold RowIs at hR
                rw [HTK.out, HTX.out] at hR
                obtain ⟨ek, hek⟩ : ∃ n, E.kind = n := ⟨_, rfl⟩
                obtain ⟨en, hen⟩ : ∃ n : ByteArray, (⟨E.name.toArray⟩ : ByteArray) = n := ⟨_, rfl⟩
                obtain ⟨el, hel⟩ : ∃ n, E.kids.length = n := ⟨_, rfl⟩
                have hnm : E.name = X.data.toList → en = X := fun q => by rw [← hen, q]
                rw [hek] at y0 hR
                rw [hen] at y1
                rw [hel] at y5 hR
                generalize E.flt = ef at *
                generalize E.bits = eb at *
                clear hm he hcells f5 HC hek hen hel HR
                by_cases hk0 : k = 0
                · subst hk0
                  have hz := hR.1 rfl
                  subst hz
                  clear hR hnm
                  rcases hkd with rfl | rfl | rfl | rfl
                  all_goals
                    go_wp2
                    go_ret
                    exact ⟨rfl, HF5.out.comp (by exact frA)⟩
                · have ik0 : ¬ ((k : Int) = 0) := by omega
                  have dk0 : ((k : Int) == 0) = false := by simpa using ik0
                  rcases hkd with rfl | rfl | rfl | rfl
                  · obtain ⟨h4, h5⟩ := hR.2.2 hk0 (by decide)
                    subst h4 h5
                    have wk : IntKind.i64.wrap ((k : Int) + 1) = (k : Int) + 1 := by rw [IntKind.wrap_i64]; omega
                    clear hR hnm
                    go_wp2
                    go_ret
                    exact ⟨rfl, HF5.out.comp (by exact frA)⟩
                  · obtain ⟨h4, h5⟩ := hR.2.1 hk0 (by decide)
                    have h6 := hnm h5
                    subst h4 h6
                    clear hR hnm h5
                    go_wp2_with fail
                    go_quiet (fail)
                    go_wp2
                    go_ret
                    exact ⟨rfl, HF5.out.comp (by exact frA)⟩
                  · obtain ⟨h4, h5⟩ := hR.2.1 hk0 (by decide)
                    have h6 := hnm h5
                    subst h4 h6
                    clear hR hnm h5
                    go_wp2_with fail
                    go_quiet (fail)
                    go_wp2
                    go_ret
                    exact ⟨rfl, HF5.out.comp (by exact frA)⟩
                  · obtain ⟨h4, h5⟩ := hR.2.2 hk0 (by decide)
                    subst h4 h5
                    have wk : IntKind.i64.wrap ((k : Int) + 1) = (k : Int) + 1 := by rw [IntKind.wrap_i64]; omega
                    clear hR hnm
                    go_wp2
                    go_ret
                    exact ⟨rfl, HF5.out.comp (by exact frA)⟩
              · have hbad := HD.out.2.2 hkd
                obtain ⟨⟨M, E1, E2⟩, hM⟩ : ∃ M, parseF (rowB X.data.toList k) = M := ⟨_, rfl⟩
                have hc := HD.out.1
                rw [hM] at hc hbad
                simp only at hc hbad
                have HC := Lib.hid hc
                rw [HTK.out] at hkd
                have k1 : ¬ tk = 1 := fun q => hkd (.inl q)
                have k2 : ¬ tk = 2 := fun q => hkd (.inr (.inl q))
                have k7 : ¬ tk = 7 := fun q => hkd (.inr (.inr (.inl q)))
                have k3 : ¬ tk = 3 := fun q => hkd (.inr (.inr (.inr q)))
                have dE : (E1 == 0) = false := by simpa using hbad
                have dN : (E1 != 0) = true := by simpa using hbad
                clear hc hM HD hkd
                go_wp2_with fail
                refine (HC.out _ (HW.out.fr (HF3.out.comp HQ.out))).mono ?_
                rintro e w5 ⟨v, rfl, hm, f5⟩
                obtain ⟨c1, c2, b1, b2, rfl⟩ := hm.form
                generalize M.cons.length = nc
                generalize M.binds.length = nb
                obtain ⟨p0, p1, l1⟩ := HPP.out _ (HQ.out.comp f5)
                have HF5 := Lib.hid ((HF3.out.comp HQ.out).comp f5)
                clear hm f5 HC
                go_wp2
                go_ret
                exact ⟨rfl, HF5.out.comp (by exact frA)⟩
        · have ix : (X.toList == head.toList) = false := by
            rw [Lib.toList_data, Lib.toList_data, beq_eq_false_iff_ne]
            exact fun q => hXh (bytes_eq _ _ q)
          have ixn : ¬ X = head := hXh
          clear hgt hX
          go_wp2
          go_ret
          exact ⟨rfl, HF3.out.comp (by exact frA)⟩
      · have i30 : (30 : Int) < (head.size : Int) := by omega
        clear hgt hX
        go_wp2
        go_ret
        exact ⟨rfl, HF3.out.comp (by exact frA)⟩
    · have iL : ¬ (L : Int) = 1 := by omega
      have dL : ((L : Int) == 1) = false := by simpa using iL
      go_wp2
      go_ret
      exact ⟨rfl, HF3.out.comp (by exact frA)⟩
  · have d1 : (er == 0) = false := by simpa using her
    go_wp2
    go_ret
    exact ⟨rfl, HF3.out.comp (by exact frA)⟩
end Go.Proofs.YtlnmicddobgppaaGreatDoor
