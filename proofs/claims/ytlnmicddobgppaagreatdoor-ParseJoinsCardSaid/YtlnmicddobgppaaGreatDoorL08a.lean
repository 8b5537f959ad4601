/-
  Layer 8's statements: what they share: the document's example; what is told of two texts. Conditions: sizes that memory bears, and the library's variables.
-/
import Derived.Test.YtlnmicddobgppaaGreatDoorHeldBy
import Derived.Test.YtlnmicddobgppaaGreatDoorPpF
import Derived.Test.YtlnmicddobgppaaGreatDoorSmA
namespace Go.Proofs.YtlnmicddobgppaaGreatDoor
set_option linter.unusedSimpArgs false
set_option linter.unusedVariables false
open Go.RowKit

def src8 : List UInt8 := [102, 32, 120, 32, 61, 32, 103, 32, 40, 120, 32, 43, 32, 49, 41, 59]
def mod8 : TM := ⟨[], [.mk [102] [[120]] (.mk 4 [] false 0 [] [.mk 1 [103] false 0 [] [] [] [], .mk 5 [43] false 0 [] [.mk 1 [120] false 0 [] [] [] [], .mk 3 [] false 1 [] [] [] []] [] []] [] [])]⟩
theorem src8_parse : parseF src8 = (mod8, 0, 0) := by kernel_rfl
theorem MVal.fr {X S : Nat → Prop} {w w' : World} {v : Value} {m : TM} (h : MVal X w v m) (f : Fr S w w') (hs : ∀ b, S b → X b) : MVal X w' v m := by
  obtain ⟨cv, bv, cs, bs, rfl, h1, h2, h3, h4⟩ := h
  exact ⟨cv, bv, cs, bs, rfl, h1.fr f hs, h2, h3.fr f hs, fun i hi => lawB.fr (h4 i hi) f hs⟩
theorem MVal.free {X : Nat → Prop} {w : World} {v : Value} {m : TM} (h : MVal X w v m) : MVal (fun _ => False) w v m := by
  obtain ⟨cv, bv, cs, bs, rfl, h1, h2, h3, h4⟩ := h
  exact ⟨cv, bv, cs, bs, rfl, h1.mono (by decide) (fun _ _ q => q.elim), h2, h3.mono (by decide) (fun _ _ q => q.elim), fun i hi => lawB.mono (h4 i hi) (fun _ _ q => q.elim)⟩
theorem MVal.form {X : Nat → Prop} {w : World} {v : Value} {m : TM} (h : MVal X w v m) : ∃ c1 c2 b1 b2, v = .agg #[.slice c1 m.cons.length c2, .slice b1 m.binds.length b2] := by
  obtain ⟨cv, bv, cs, bs, rfl, h1, h2, h3, h4⟩ := h
  obtain ⟨c1, c2, rfl⟩ := h1.shape
  obtain ⟨b1, b2, rfl⟩ := h3.shape
  exact ⟨c1, c2, b1, b2, rfl⟩
theorem same_all : SameAll := fun w cs ds e h1 h2 => sm_all h1 w (Fr.refl _ _) ds h2
/-- Modules that are one are the same. -/
theorem same8_any {w : World} {va vb : Value} {m : TM} (h1 : MVal (fun _ => False) w va m) (h2 : MVal (fun _ => False) w vb m) :
    Calls Tryz.prog 13 #[va, vb] w fun r w' => r = .returned (.bool true) ∧ Fr Nil w w' := same8_of same_all h1 h2
set_option maxRecDepth 100000 in
set_option maxHeartbeats 4000000 in
theorem awake8_any (w : World) (hW : LibW w) : Calls Tryz.prog 10 #[] w fun r w' => r = .returned (.bool true) ∧ Fr Nil w w' := by
  have hp := qparse_any ⟨#[102, 32, 120, 32, 61, 32, 103, 32, 40, 120, 32, 43, 32, 49, 41, 59]⟩ w hW (by decide)
  rw [show (ByteArray.mk #[102, 32, 120, 32, 61, 32, 103, 32, 40, 120, 32, 43, 32, 49, 41, 59]).data.toList = src8 from rfl, src8_parse] at hp
  have hp' : Calls Tryz.prog 11 #[.string ⟨#[102, 32, 120, 32, 61, 32, 103, 32, 40, 120, 32, 43, 32, 49, 41, 59]⟩] w fun r w' => ∃ v, r = .returned (.tuple #[v, .int .i64 0, .int .i64 0]) ∧ MVal (fun b => b < w.heap.size) w' v mod8 ∧ Fr Nil w w' := hp
  have HP := Lib.hid hp'
  clear hp hp' hW
  go_enter Tryz.func10, Tryz.ntmps10
  go_wp2_with fail
  refine HP.out.mono ?_
  rintro e w1 ⟨v, rfl, hm, f1⟩
  obtain ⟨cv, bv, cs, bs, rfl, h1, h2, h3, h4⟩ := hm.free
  obtain ⟨ca, cc, rfl⟩ := h1.shape
  obtain ⟨ba, bc, rfl⟩ := h3.shape
  obtain ⟨b, off, rfl, _, hc⟩ := h3.at (i := 0) (by decide)
  obtain ⟨pn, c, ec, hr, he⟩ := h4 0 (by decide)
  rw [ec] at hc
  obtain ⟨pa, pc, rfl⟩ := RowC.shape hr
  cases he with
  | mk kc bc2 ac be ae bp an hp hk hk2 hb hb1 hb2 hb3 ha ha1 ha2 ha3 =>
    obtain ⟨ka, kd, rfl⟩ := hk.shape
    obtain ⟨kb, ko, rfl, _, hkc⟩ := hk.at (i := 1) (by decide)
    have hk1 := hk2 1 (by decide)
    generalize hkc1 : kc 1 = k1 at hkc hk1
    cases hk1 with
    | mk kc' bc2' ac' be' ae' bp' an' hp' hk' hk2' hb' hb1' hb2' hb3' ha' ha1' ha2' ha3' =>
      have u0 := hc 0 _ rfl
      have u1 := hc 1 _ rfl
      have u2 := hc 2 _ rfl
      have u7 := hc 7 _ rfl
      have v1 := hkc 1 _ rfl
      simp only [Nat.zero_mul, Nat.add_zero] at u0 u1 u2 u7 v1
      have l1 := World.block_lt_of_cell? _ _ u0
      have l2 := World.block_lt_of_cell? _ _ v1
      have HF := Lib.hid f1
      clear hc hkc hk hk2 hb hb1 hb2 hb3 ha ha1 ha2 ha3 hp hp' hk' hk2' hb' hb1' hb2' hb3' ha' ha1' ha2' ha3' hr h1 h2 h3 h4 hm f1 HP ec hkc1
      simp only [mod8, List.length_cons, List.length_nil, Nat.zero_add] at u0 u1 u2 u7 v1 ⊢
      go_wp2
      go_ret
      exact ⟨rfl, HF.out.comp (by exact frA)⟩
set_option maxRecDepth 100000 in
set_option maxHeartbeats 4000000 in
/-- Any source tells just the document's module. -/
theorem tells8_any (s : ByteArray) (w : World) (hW : LibW w) : Calls Tryz.prog 3 #[.string s] w fun r w' => r = .returned (.bool true) ∧ Fr Nil w w' := by
  have hav := awake8_any w hW
  have HA := Lib.hid hav
  have HW := Lib.hid hW
  clear hav hW
  by_cases hs : s.size ≤ 5000
  · have t1 : ¬ (5000 : Int) < (s.size : Int) := by omega
    have hpp := fun w h => qparse_any s w h (by omega)
    have hrp := fun w => rparse_src s w (by omega)
    obtain ⟨⟨M, E1, E2⟩, hM⟩ : ∃ M, parseF s.data.toList = M := ⟨_, rfl⟩
    rw [hM] at hpp hrp
    have HPP := Lib.hid hpp
    have HRP := Lib.hid hrp
    clear hpp hrp hM
    go_enter Tryz.func3, Tryz.ntmps3
    go_wp2_with fail
    refine (HA.out).mono ?_
    rintro e w1 ⟨rfl, f1⟩
    go_wp2_with fail
    refine (HPP.out _ (HW.out.fr f1)).mono ?_
    rintro e w2 ⟨va, rfl, h1, f2⟩
    obtain ⟨c1, c2, b1, b2, rfl⟩ := h1.form
    obtain ⟨nc, hnc⟩ : ∃ n, M.cons.length = n := ⟨_, rfl⟩
    obtain ⟨nb, hnb⟩ : ∃ n, M.binds.length = n := ⟨_, rfl⟩
    simp only [hnc, hnb] at h1 ⊢
    obtain ⟨T, hT⟩ : ∃ T, w2.heap.size = T := ⟨_, rfl⟩
    obtain ⟨W3, hW3⟩ : ∃ W3, w2.alloc (.cells #[.slice c1 nc c2, .slice b1 nb b2] 26) = W3 := ⟨_, rfl⟩
    have f3 : Fr Nil w2 W3 := by rw [← hW3]; exact frA
    have bT : Blk W3 T #[.slice c1 nc c2, .slice b1 nb b2] 26 := by rw [← hW3, ← hT]; exact Blk.new _ _ _
    have H3 := Lib.hid (And.intro (h1.free.fr f3 (fun _ q => q.elim)) (And.intro bT ((f1.comp f2).comp f3)))
    have HWW := Lib.hid (And.intro hT hW3)
    clear h1 f1 f2 f3 bT hT hW3
    go_wp2_with fail
    try rw [HWW.out.1]
    try rw [HWW.out.2]
    clear HWW
    refine (HRP.out _).mono ?_
    rintro e w4 ⟨vb, rfl, h4, f4⟩
    obtain ⟨d1, d2, e1, e2, rfl⟩ := h4.form
    simp only [hnc, hnb] at h4 ⊢
    have bT4 := f4.blk H3.out.2.1 (fun q => q)
    have y0 := bT4.cell 0
    have y1 := bT4.cell 1
    simp at y0 y1
    have yl := bT4.lt
    have H4 := Lib.hid (And.intro (H3.out.1.fr f4 (fun _ q => q.elim)) (And.intro h4.free (H3.out.2.2.comp f4)))
    clear bT4 f4 h4
    go_wp2_with fail
    refine (same8_any (m := M) (H4.out.1.fr (S := Nil) (by exact frA) (fun _ q => q.elim)) (H4.out.2.1.fr (S := Nil) (by exact frA) (fun _ q => q.elim))).mono ?_
    rintro e w5 ⟨rfl, f5⟩
    have HF := Lib.hid (H4.out.2.2.comp (Fr.comp (S := Nil) (by exact frA) f5))
    clear f5
    go_wp2
    go_ret
    exact ⟨rfl, HF.out⟩
  · have t1 : (5000 : Int) < (s.size : Int) := by omega
    go_enter Tryz.func3, Tryz.ntmps3
    go_wp2_with fail
    refine (HA.out).mono ?_
    rintro e w1 ⟨rfl, f1⟩
    go_wp2
    go_ret
    exact ⟨rfl, by exact frA⟩
end Go.Proofs.YtlnmicddobgppaaGreatDoor
