/-
  ParseDeep: a name in as many ( ) as may be, and in one more. Conditions: the library's variables.
-/
import Derived.Test.YtlnmicddobgppaaGreatDoorHeldBy
import Derived.Test.YtlnmicddobgppaaGreatDoorL08b
import Derived.Test.YtlnmicddobgppaaGreatDoorPjA
namespace Go.Proofs.YtlnmicddobgppaaGreatDoor
set_option linter.unusedSimpArgs false
set_option linter.unusedVariables false
open Go.RowKit

def repB (c : UInt8) (k : Nat) : ByteArray := ⟨(List.replicate k c).toArray⟩
theorem repB_more (c : UInt8) (k : Nat) : repB c k ++ ⟨#[c]⟩ = repB c (k + 1) := by
  apply bytes_eq
  unfold repB
  rw [ByteArray.data_append, List.replicate_succ']
  simp
theorem repB_size (c : UInt8) (k : Nat) : (repB c k).size = k := by simp [repB, ByteArray.size]
theorem pdB_text (n : Nat) : (⟨#[102, 61]⟩ : ByteArray) ++ repB 40 n ++ ⟨#[120]⟩ ++ repB 41 n ++ ⟨#[59]⟩ = ⟨(pdB n).toArray⟩ := by
  apply bytes_eq
  unfold repB pdB
  simp [ByteArray.data_append]
theorem plB_text (n : Nat) : (⟨#[102, 61, 108, 101, 116, 32, 103, 61]⟩ : ByteArray) ++ repB 40 n ++ ⟨#[120]⟩ ++ repB 41 n ++ ⟨#[32, 105, 110, 32, 103, 59]⟩ = ⟨(plB n).toArray⟩ := by
  apply bytes_eq
  unfold repB plB
  simp [ByteArray.data_append]
theorem MVal.body {X : Nat → Prop} {w : World} {v : Value} {c : List UInt8} {ps : List (List UInt8)} {E : TE} (h : MVal X w v ⟨[], [.mk c ps E]⟩) : ∃ c1 c2 b off b2 cs, v = .agg #[.slice c1 0 c2, .slice (some ⟨b, off, none⟩) 1 b2] ∧ EAt (fun _ => False) w cs E ∧ ∀ j u, cs[j]? = some u → w.cell? ⟨b, off + 2 + j, none⟩ = some u := by
  obtain ⟨cv, bv, cs, bs, rfl, h1, h2, h3, h4⟩ := h.free
  obtain ⟨c1, c2, rfl⟩ := h1.shape
  obtain ⟨b1, b2, rfl⟩ := h3.shape
  obtain ⟨b, off, rfl, _, hc⟩ := h3.at (i := 0) (by simp)
  obtain ⟨pn, c, ec, hr, he⟩ := h4 0 (by simp)
  rw [ec] at hc
  refine ⟨c1, c2, b, off, b2, c, rfl, he, fun j u hj => ?_⟩
  have := hc (j + 2) u (by simpa using hj)
  rw [show off + 0 * 10 + (j + 2) = off + 2 + j by omega] at this
  exact this
def varX : TE := .mk 1 [120] false 0 [] [] [] []
def letX : TE := .mk 6 [] false 0 [] [.mk 1 [103] false 0 [] [] [] []] [.mk [103] [] (.mk 1 [120] false 0 [] [] [] [])] []
theorem varX_cells {w : World} {cs : List Value} (h : EAt (fun _ => False) w cs varX) : ∃ a0 c0 a1 c1 a2 c2 a3 c3, cs = [.int .i64 1, .string ⟨#[120]⟩, .bool false, .int .u64 0, .slice a0 0 c0, .slice a1 0 c1, .slice a2 0 c2, .slice a3 0 c3] := by
  unfold varX at h
  cases h with
  | mk kc bc ac be ae bp an hp hk hk2 hb hb1 hb2 hb3 ha ha1 ha2 ha3 =>
    obtain ⟨a0, c0, rfl⟩ := RowC.shape hp
    obtain ⟨a1, c1, rfl⟩ := hk.shape
    obtain ⟨a2, c2, rfl⟩ := hb.shape
    obtain ⟨a3, c3, rfl⟩ := ha.shape
    exact ⟨a0, c0, a1, c1, a2, c2, a3, c3, rfl⟩
theorem letX_cells {w : World} {cs : List Value} (h : EAt (fun _ => False) w cs letX) : ∃ a0 c0 a1 c1 b2 o2 c2 a3 c3, cs = [.int .i64 6, .string ⟨#[]⟩, .bool false, .int .u64 0, .slice a0 0 c0, .slice a1 1 c1, .slice (some ⟨b2, o2, none⟩) 1 c2, .slice a3 0 c3] ∧ w.cell? ⟨b2, o2 + 2, none⟩ = some (.int .i64 1) := by
  unfold letX at h
  cases h with
  | mk kc bc ac be ae bp an hp hk hk2 hb hb1 hb2 hb3 ha ha1 ha2 ha3 =>
    obtain ⟨a0, c0, rfl⟩ := RowC.shape hp
    obtain ⟨a1, c1, rfl⟩ := hk.shape
    obtain ⟨a2, c2, rfl⟩ := hb.shape
    obtain ⟨a3, c3, rfl⟩ := ha.shape
    obtain ⟨b2, o2, rfl, _, hc⟩ := hb.at (i := 0) (by decide)
    obtain ⟨_, _, _, _, _, _, _, _, e⟩ := varX_cells (hb3 0 (by decide))
    rw [hb1 0 (by decide), e] at hc
    have := hc 2 _ rfl
    simp only [Nat.zero_mul, Nat.add_zero] at this
    exact ⟨a0, c0, a1, c1, b2, o2, c2, a3, c3, rfl, this⟩
set_option maxRecDepth 100000 in
set_option maxHeartbeats 8000000 in
theorem deep8_any (n : Int) (more : Bool) (w : World) (hW : LibW w) : Calls Tryz.prog 7 #[.int .i64 n, .bool more] w fun e w' => e = .returned (.bool true) ∧ Fr Nil w w' := by
  have hav := awake8_any w hW
  have HA := Lib.hid hav
  have HW := Lib.hid hW
  clear hav hW
  by_cases h0 : n < 0
  · go_enter Tryz.func7, Tryz.ntmps7
    go_wp2_with fail
    refine (HA.out).mono ?_
    rintro e w1 ⟨rfl, f1⟩
    go_wp2
    go_ret
    exact ⟨rfl, by exact frA⟩
  by_cases h300 : 300 < n
  · go_enter Tryz.func7, Tryz.ntmps7
    go_wp2_with fail
    refine (HA.out).mono ?_
    rintro e w1 ⟨rfl, f1⟩
    go_wp2
    go_ret
    exact ⟨rfl, by exact frA⟩
  obtain ⟨N, rfl⟩ : ∃ N : Nat, n = (N : Int) := ⟨n.toNat, by omega⟩
  have hN : N ≤ 300 := by omega
  have s40 := repB_size 40
  have s41 := repB_size 41
  have q1 : (⟨#[102, 61]⟩ : ByteArray).size = 2 := rfl
  have q2 : (⟨#[120]⟩ : ByteArray).size = 1 := rfl
  have q3 : (⟨#[59]⟩ : ByteArray).size = 1 := rfl
  have q4 : (⟨#[102, 61, 108, 101, 116, 32, 103, 61]⟩ : ByteArray).size = 8 := rfl
  have q5 : (⟨#[32, 105, 110, 32, 103, 59]⟩ : ByteArray).size = 6 := rfl
  have q6 : (⟨#[40]⟩ : ByteArray).size = 1 := rfl
  have q7 : (⟨#[41]⟩ : ByteArray).size = 1 := rfl
  have sa : ∀ k, k < N → ∀ w, (Op.stringOp .add (repB 40 k) ⟨#[40]⟩).run Tryz.prog w = .ok (.string (repB 40 (k + 1))) w := fun k hk w => by
    rw [← repB_more]; exact run_string_add_sum w _ _ (by rw [s40, q6]; omega)
  have sb : ∀ k, k < N → ∀ w, (Op.stringOp .add (repB 41 k) ⟨#[41]⟩).run Tryz.prog w = .ok (.string (repB 41 (k + 1))) w := fun k hk w => by
    rw [← repB_more]; exact run_string_add_sum w _ _ (by rw [s41, q7]; omega)
  have a1 : ∀ w, (Op.stringOp .add ⟨#[102, 61]⟩ (repB 40 N)).run Tryz.prog w = .ok (.string (⟨#[102, 61]⟩ ++ repB 40 N)) w := fun w => run_string_add_sum w _ _ (by rw [s40, q1]; omega)
  have a2 : ∀ w, (Op.stringOp .add (⟨#[102, 61]⟩ ++ repB 40 N) ⟨#[120]⟩).run Tryz.prog w = .ok (.string (⟨#[102, 61]⟩ ++ repB 40 N ++ ⟨#[120]⟩)) w := fun w => run_string_add_sum w _ _ (by simp only [ByteArray.size_append, s40, q1, q2]; omega)
  have a3 : ∀ w, (Op.stringOp .add (⟨#[102, 61]⟩ ++ repB 40 N ++ ⟨#[120]⟩) (repB 41 N)).run Tryz.prog w = .ok (.string (⟨#[102, 61]⟩ ++ repB 40 N ++ ⟨#[120]⟩ ++ repB 41 N)) w := fun w => run_string_add_sum w _ _ (by simp only [ByteArray.size_append, s40, s41, q1, q2]; omega)
  have a4 : ∀ w, (Op.stringOp .add (⟨#[102, 61]⟩ ++ repB 40 N ++ ⟨#[120]⟩ ++ repB 41 N) ⟨#[59]⟩).run Tryz.prog w = .ok (.string ⟨(pdB N).toArray⟩) w := fun w => by
    rw [← pdB_text]; exact run_string_add_sum w _ _ (by simp only [ByteArray.size_append, s40, s41, q1, q2, q3]; omega)
  have b1 : ∀ w, (Op.stringOp .add ⟨#[102, 61, 108, 101, 116, 32, 103, 61]⟩ (repB 40 N)).run Tryz.prog w = .ok (.string (⟨#[102, 61, 108, 101, 116, 32, 103, 61]⟩ ++ repB 40 N)) w := fun w => run_string_add_sum w _ _ (by rw [s40, q4]; omega)
  have b2 : ∀ w, (Op.stringOp .add (⟨#[102, 61, 108, 101, 116, 32, 103, 61]⟩ ++ repB 40 N) ⟨#[120]⟩).run Tryz.prog w = .ok (.string (⟨#[102, 61, 108, 101, 116, 32, 103, 61]⟩ ++ repB 40 N ++ ⟨#[120]⟩)) w := fun w => run_string_add_sum w _ _ (by simp only [ByteArray.size_append, s40, q4, q2]; omega)
  have b3 : ∀ w, (Op.stringOp .add (⟨#[102, 61, 108, 101, 116, 32, 103, 61]⟩ ++ repB 40 N ++ ⟨#[120]⟩) (repB 41 N)).run Tryz.prog w = .ok (.string (⟨#[102, 61, 108, 101, 116, 32, 103, 61]⟩ ++ repB 40 N ++ ⟨#[120]⟩ ++ repB 41 N)) w := fun w => run_string_add_sum w _ _ (by simp only [ByteArray.size_append, s40, s41, q4, q2]; omega)
  have b4 : ∀ w, (Op.stringOp .add (⟨#[102, 61, 108, 101, 116, 32, 103, 61]⟩ ++ repB 40 N ++ ⟨#[120]⟩ ++ repB 41 N) ⟨#[32, 105, 110, 32, 103, 59]⟩).run Tryz.prog w = .ok (.string ⟨(plB N).toArray⟩) w := fun w => by
    rw [← plB_text]; exact run_string_add_sum w _ _ (by simp only [ByteArray.size_append, s40, s41, q4, q2, q5]; omega)
  have HS := Lib.hid (And.intro sa sb)
  have hd := fun w h => qparse_any ⟨(pdB N).toArray⟩ w h (by rw [← pdB_text]; simp only [ByteArray.size_append, s40, s41, q1, q2, q3]; omega)
  have hl := fun w h => qparse_any ⟨(plB N).toArray⟩ w h (by rw [← plB_text]; simp only [ByteArray.size_append, s40, s41, q4, q2, q5]; omega)
  have hd : ∀ w, LibW w → Calls Tryz.prog 11 #[.string ⟨(pdB N).toArray⟩] w fun r w' => ∃ v, r = .returned (.tuple #[v, .int .i64 (parseF (pdB N)).2.1, .int .i64 ((parseF (pdB N)).2.2 : Int)]) ∧ MVal (fun b => b < w.heap.size) w' v (parseF (pdB N)).1 ∧ Fr Nil w w' := hd
  have hl : ∀ w, LibW w → Calls Tryz.prog 11 #[.string ⟨(plB N).toArray⟩] w fun r w' => ∃ v, r = .returned (.tuple #[v, .int .i64 (parseF (plB N)).2.1, .int .i64 ((parseF (plB N)).2.2 : Int)]) ∧ MVal (fun b => b < w.heap.size) w' v (parseF (plB N)).1 ∧ Fr Nil w w' := hl
  have td := deep_tells N hN
  have tl := let_tells N hN
  have HD := Lib.hid (And.intro hd td)
  have HLL := Lib.hid (And.intro hl tl)
  have HT := Lib.hid (And.intro (And.intro a1 (And.intro a2 (And.intro a3 a4))) (And.intro b1 (And.intro b2 (And.intro b3 b4))))
  clear sa sb s40 s41 q1 q2 q3 q4 q5 q6 q7 hd hl td tl a1 a2 a3 a4 b1 b2 b3 b4
  go_enter Tryz.func7, Tryz.ntmps7
  go_wp2_with fail
  refine (HA.out).mono ?_
  rintro e w1 ⟨rfl, f1⟩
  have HF1 := Lib.hid f1
  clear f1 HA
  go_wp2_with fail
  go_loopw [5, 6, 7] (fun ov sv iv wr => ∃ k : Nat, k ≤ N ∧ ov = .string (repB 40 k) ∧ sv = .string (repB 41 k) ∧ iv = .int .i64 k ∧ Hid (Fr Nil w1 wr)) (fun _ _ iv _ => N - (intOf iv).toNat)
  case atStart => exact ⟨0, by omega, rfl, rfl, rfl, Lib.hid (Fr.refl _ _)⟩
  case round =>
    obtain ⟨k, hk, rfl, rfl, rfl, HQ⟩ := hrel
    by_cases hlt : k < N
    · have i1 : (k : Int) < (N : Int) := by omega
      have c1 := HS.out.1 k hlt
      have c2 := HS.out.2 k hlt
      go_wp2
      go_roundw
      case rel => exact ⟨k + 1, by omega, rfl, rfl, by go_num, HQ⟩
      case measure => simp [intOf]; omega
    · obtain rfl : k = N := by omega
      have i1 : ¬ ((k : Int) < (k : Int)) := by omega
      obtain ⟨⟨a1, a2, a3, a4⟩, b1, b2, b3, b4⟩ := HT.out
      have HF2 := Lib.hid (HF1.out.comp HQ.out)
      clear HT HS HQ HF1
      cases more with
      | false =>
        by_cases h199 : k ≤ 199
        · have hp := HD.out.2.1 h199
          have i2 : ¬ (199 : Int) < (k : Int) := by omega
          have hc := HD.out.1
          rw [hp] at hc
          simp only at hc
          have HC := Lib.hid hc
          clear hp hc HD HLL
          go_wp2_with fail
          refine (HC.out _ (HW.out.fr HF2.out)).mono ?_
          rintro e w2 ⟨v, rfl, hm, f2⟩
          obtain ⟨c1, c2, b, off, b2', cs, rfl, he, hcells⟩ := hm.body
          obtain ⟨a0, e0, a1', e1, a2', e2, a3', e3, rfl⟩ := varX_cells he
          have p0 := hcells 0 _ rfl
          have p1 := hcells 1 _ rfl
          have p2 := hcells 2 _ rfl
          have p3 := hcells 3 _ rfl
          have p4 := hcells 4 _ rfl
          have p5 := hcells 5 _ rfl
          have p6 := hcells 6 _ rfl
          have p7 := hcells 7 _ rfl
          simp only [Nat.add_zero] at p0
          have l1 := World.block_lt_of_cell? _ _ p0
          have HF3 := Lib.hid (HF2.out.comp f2)
          clear hm he hcells f2 a1 a2 a3 a4 b1 b2 b3 b4 HC
          go_wp2
          go_ret
          exact ⟨rfl, HF3.out.comp (by exact frA)⟩
        · have hp := HD.out.2.2 (by omega)
          have i2 : (199 : Int) < (k : Int) := by omega
          have hc := HD.out.1
          rw [hp] at hc
          simp only at hc
          have HC := Lib.hid hc
          clear hp hc HD HLL
          go_wp2_with fail
          refine (HC.out _ (HW.out.fr HF2.out)).mono ?_
          rintro e w2 ⟨v, rfl, hm, f2⟩
          obtain ⟨c1, c2, d1, d2, rfl⟩ := hm.form
          have HF3 := Lib.hid (HF2.out.comp f2)
          clear hm f2 a1 a2 a3 a4 b1 b2 b3 b4 HC
          simp only [List.length_nil]
          go_wp2
          go_ret
          exact ⟨rfl, HF3.out.comp (by exact frA)⟩
      | true =>
        have wk : IntKind.i64.wrap ((k : Int) + 1) = (k : Int) + 1 := by rw [IntKind.wrap_i64]; omega
        by_cases h198 : k ≤ 198
        · have hp := HLL.out.2.1 h198
          have i2 : ¬ (199 : Int) < (k : Int) + 1 := by omega
          have hc := HLL.out.1
          rw [hp] at hc
          simp only at hc
          have HC := Lib.hid hc
          clear hp hc HD HLL
          go_wp2_with fail
          refine (HC.out _ (HW.out.fr HF2.out)).mono ?_
          rintro e w2 ⟨v, rfl, hm, f2⟩
          obtain ⟨c1, c2, b, off, b2', cs, rfl, he, hcells⟩ := hm.body
          obtain ⟨a0, e0, a1', e1, bb, oo, e2, a3', e3, rfl, p8⟩ := letX_cells he
          have p0 := hcells 0 _ rfl
          have p1 := hcells 1 _ rfl
          have p2 := hcells 2 _ rfl
          have p3 := hcells 3 _ rfl
          have p4 := hcells 4 _ rfl
          have p5 := hcells 5 _ rfl
          have p6 := hcells 6 _ rfl
          have p7 := hcells 7 _ rfl
          simp only [Nat.add_zero] at p0
          have l1 := World.block_lt_of_cell? _ _ p0
          have l2 := World.block_lt_of_cell? _ _ p8
          have HF3 := Lib.hid (HF2.out.comp f2)
          clear hm he hcells f2 a1 a2 a3 a4 b1 b2 b3 b4 HC
          go_wp2
          go_ret
          exact ⟨rfl, HF3.out.comp (by exact frA)⟩
        · have hp := HLL.out.2.2 (by omega)
          have i2 : (199 : Int) < (k : Int) + 1 := by omega
          have hc := HLL.out.1
          rw [hp] at hc
          simp only at hc
          have HC := Lib.hid hc
          clear hp hc HD HLL
          go_wp2_with fail
          refine (HC.out _ (HW.out.fr HF2.out)).mono ?_
          rintro e w2 ⟨v, rfl, hm, f2⟩
          obtain ⟨c1, c2, d1, d2, rfl⟩ := hm.form
          have HF3 := Lib.hid (HF2.out.comp f2)
          clear hm f2 a1 a2 a3 a4 b1 b2 b3 b4 HC
          simp only [List.length_nil]
          go_wp2
          go_ret
          exact ⟨rfl, HF3.out.comp (by exact frA)⟩
end Go.Proofs.YtlnmicddobgppaaGreatDoor
