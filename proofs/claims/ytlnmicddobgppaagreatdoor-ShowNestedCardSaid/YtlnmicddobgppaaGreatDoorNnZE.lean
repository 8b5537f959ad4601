/-
  The law ShowNested, walked (layer 9). Conditions: the library's variables; the tables that Go's library reads.
-/
import Derived.JoinedOf
import Derived.RowKitTokens
import Derived.Test.YtlnmicddobgppaaGreatDoorRows
import Derived.LaidLaws
import Derived.Lib.ItoaNum
import Derived.Shelf.Spec.TrailingZeros
import Derived.Handed
import Derived.HandedShaped
import Derived.Shelf.Vars
import GoSem.PinnedTables
import Derived.Test.YtlnmicddobgppaaGreatDoorNnZC
import Derived.Test.YtlnmicddobgppaaGreatDoorNnW
import Derived.Test.YtlnmicddobgppaaGreatDoorNnZD
import Derived.Test.YtlnmicddobgppaaGreatDoorNnA
import Derived.Test.YtlnmicddobgppaaGreatDoorNnP
import Derived.Test.YtlnmicddobgppaaGreatDoorNnZ
namespace Go.Proofs.YtlnmicddobgppaaGreatDoor
set_option maxRecDepth 100000
set_option maxHeartbeats 4000000
set_option linter.unusedSimpArgs false
set_option linter.unusedVariables false
open Go.RowKit
theorem mvalN_free {X : Nat → Prop} {w : World} {v : Value} {m : TM} (h : MVal X w v m) : MVal (fun _ => False) w v m := by
 obtain ⟨cv, bv, cs, bs, rfl, h1, h2, h3, h4⟩ := h
 exact ⟨cv, bv, cs, bs, rfl, h1.mono (by decide) (fun _ _ q => q.elim), h2, h3.mono (by decide) (fun _ _ q => q.elim), fun i hi => lawB.mono (h4 i hi) (fun _ _ q => q.elim)⟩
theorem mval_body {X : Nat → Prop} {w : World} {v : Value} {c : List UInt8} {ps : List (List UInt8)} {E : TE} (h : MVal X w v ⟨[], [.mk c ps E]⟩) : ∃ c1 c2 b off b2 cs, v = .agg #[.slice c1 0 c2, .slice (some ⟨b, off, none⟩) 1 b2] ∧ EAt (fun _ => False) w cs E ∧ ∀ j u, cs[j]? = some u → w.cell? ⟨b, off + 2 + j, none⟩ = some u := by
 obtain ⟨cv, bv, cs, bs, rfl, h1, h2, h3, h4⟩ := mvalN_free h
 obtain ⟨c1, c2, rfl⟩ := h1.shape
 obtain ⟨b1, b2, rfl⟩ := h3.shape
 obtain ⟨b, off, rfl, _, hc⟩ := h3.at (i := 0) (by simp)
 obtain ⟨pn, c, ec, hr, he⟩ := h4 0 (by simp)
 rw [ec] at hc
 refine ⟨c1, c2, b, off, b2, c, rfl, he, fun j u hj => ?_⟩
 have := hc (j + 2) u (by simpa using hj)
 rw [show off + 0 * 10 + (j + 2) = off + 2 + j by omega] at this
 exact this
theorem nested9_any (s : ByteArray) (w : World) (hT : Tabs w) (hW : LibW w) :
 Calls Tryz.prog 9 #[.string s] w fun r w' => r = .returned (.bool true) ∧ Fr Nil w w' := by
 have HA := Lib.hid (awake9_any w hT)
 have HT := Lib.hid (And.intro hT hW)
 clear hT hW
 by_cases hs : s.size ≤ 2000
 · have q1 : ¬ (2000 : Int) < (s.size : Int) := by omega
   have hnt := fun b => @nested_tells s.data.toList b
   obtain ⟨⟨m, E1, E2⟩, hM⟩ : ∃ M, parseF s.data.toList = M := ⟨_, rfl⟩
   have hsv := src_svm s.data.toList (by rw [size_of]; omega)
   rw [hM] at hsv hnt
   obtain ⟨nc, hnc⟩ : ∃ n, m.cons.length = n := ⟨_, rfl⟩
   obtain ⟨nb, hnb⟩ : ∃ n, m.binds.length = n := ⟨_, rfl⟩
   have HP := Lib.hid (fun w' => told9_any s w' (by omega) hM hnc hnb)
   have hsv' : SvM m := hsv
   have HS := Lib.hid (And.intro hsv' (And.intro hnc hnb))
   have HN : Hid (∀ b ∈ m.binds, parseF (nestB (swE prF b.body)) = (⟨[], [.mk [102] [] b.body]⟩, 0, 0) ∨ ∃ (e : Int) (l : Nat), parseF (nestB (swE prF b.body)) = (⟨[], []⟩, e, l) ∧ (e = 2 ∨ e = 12)) := Lib.hid (fun b hb => hnt b hb)
   clear hsv hsv' hM hnc hnb hnt
   go_enter Tryz.func9, Tryz.ntmps9
   go_wp2_with fail
   refine HA.out.mono ?_
   rintro e w1 ⟨rfl, f1⟩
   have HF1 := Lib.hid f1
   clear f1 HA
   go_wp2_with fail
   refine (HP.out w1).mono ?_
   rintro e w2 ⟨ca, cc, ba, bc, rfl, hm, f2⟩
   have H2 := Lib.hid (And.intro hm (HF1.out.comp f2))
   clear hm f2 HP
   obtain ⟨T, hTs⟩ : ∃ T, w2.heap.size = T := ⟨_, rfl⟩
   by_cases he : E1 = 0
   · subst he
     obtain ⟨W3, hW3⟩ : ∃ W3, w2.alloc (.cells #[.slice ca nc cc, .slice ba nb bc] 26) = W3 := ⟨_, rfl⟩
     have f3 : Fr Nil w2 W3 := by rw [← hW3]; exact frA
     have b3 : Blk W3 T #[.slice ca nc cc, .slice ba nb bc] 26 := by rw [← hW3, ← hTs]; exact Blk.new _ _ _
     have hm3 := H2.out.1.fr f3 (fun _ q => q.elim)
     have HK2 : Hid (∀ w', Fr Nil W3 w' → w'.cell? ⟨T, 0, none⟩ = some (.slice ca nc cc) ∧ w'.cell? ⟨T, 1, none⟩ = some (.slice ba nb bc)) := Lib.hid (fun w' f => by
      have b := f.blk b3 (fun q => q)
      have z0 := b.cell 0
      have z1 := b.cell 1
      simp at z0 z1
      exact ⟨z0, z1⟩)
     have hnb9 : nb ≤ 9223372036854775807 := by
      obtain ⟨cs, h1, _⟩ := hm3.2.2.1
      have := h1.lenX
      rw [HS.out.2.2] at this
      exact this
     have H3 := Lib.hid (And.intro (H2.out.2.comp f3) (And.intro hm3 (And.intro (HT.out.1.fr (H2.out.2.comp f3)) (HT.out.2.fr (H2.out.2.comp f3)))))
     clear b3 hm3 f3
     go_wp2_with fail
     try rw [hTs]
     try rw [hW3]
     clear hTs hW3
     go_loopg [5] nb (fun g iv wr => ∃ j : Nat, g = nb - j ∧ j ≤ nb ∧ iv = .int .i64 (j : Int) ∧ Hid (Fr Nil W3 wr))
     case atStart => exact ⟨0, rfl, by omega, rfl, Lib.hid (Fr.refl _ _)⟩
     case round =>
      obtain ⟨j, rfl, hjn, rfl, HQ⟩ := hrel
      obtain ⟨Vr, hVr⟩ : ∃ V, V = wr := ⟨_, rfl⟩
      subst hVr
      have j0 : (0 : Int) ≤ (j : Int) := by omega
      by_cases hlt : j < nb
      · have hjl : j < m.binds.length := by rw [HS.out.2.2]; exact hlt
        have wk : IntKind.i64.wrap ((j : Int) + 1) = (j : Int) + 1 := by rw [IntKind.wrap_i64]; omega
        have j1 : (j : Int) < (nb : Int) := by omega
        have hbA := H3.out.2.1.2.2.1
        obtain ⟨b, off, pa, pn, pc, c, rfl, hlb, hfo, hpr, hEb, hpn, hc⟩ := hbA.at hjl
        obtain ⟨k, nm, fl, bi, a0, n0, c0, a1, n1, c1, a2, n2, c2, a3, n3, c3, rfl⟩ := hfo
        have hm9 : m.binds[j] ∈ m.binds := List.getElem_mem hjl
        have hsx := svB_mem HS.out.1.sv hm9
        have hzx : zE m.binds[j].body ≤ 50000000 := by have := zB_mem hm9; have := HS.out.1.z; omega
        have hlx : (swE prF m.binds[j].body).length ≤ 50000000 := swE_le hzx
        have hnt := HN.out _ hm9
        obtain ⟨E, hE⟩ : ∃ E, m.binds[j].body = E := ⟨_, rfl⟩
        rw [hE] at hsx hzx hlx hnt hEb
        have hps : ∀ w', Fr Nil Vr w' → Calls Tryz.prog 18 #[.agg #[.int .i64 (k : Int), .string nm, .bool fl, .int .u64 (bi : Int), .slice a0 n0 c0, .slice a1 n1 c1, .slice a2 n2 c2, .slice a3 n3 c3]] w' fun r w2 => r = .returned (.string ⟨(swE prF E).toArray⟩) ∧ Fr Nil w' w2 := fun w' f => ps_any _ w' _ (hEb.frN (HQ.out.comp f)) hsx hzx (H3.out.2.2.1.fr (HQ.out.comp f))
        obtain ⟨x, hx⟩ : ∃ x, swE prF E = x := ⟨_, rfl⟩
        rw [hx] at hps hlx hnt
        have hpp : ∀ w', Fr Nil Vr w' → Calls Tryz.prog 11 #[.string ⟨(nestB x).toArray⟩] w' fun r w2 => ∃ v, r = .returned (.tuple #[v, .int .i64 (parseF (nestB x)).2.1, .int .i64 ((parseF (nestB x)).2.2 : Int)]) ∧ MVal (fun b => b < w'.heap.size) w2 v (parseF (nestB x)).1 ∧ Fr Nil w' w2 := fun w' f => qparse_any ⟨(nestB x).toArray⟩ w' (H3.out.2.2.2.fr (HQ.out.comp f)) (by simp [ByteArray.size, nestB]; omega)
        have sa : ∀ w, (Op.stringOp .add ⟨#[102, 32, 61, 32, 40]⟩ ⟨x.toArray⟩).run Tryz.prog w = .ok (.string ⟨([102, 32, 61, 32, 40] ++ x).toArray⟩) w := fun w => sadd [102, 32, 61, 32, 40] x (by simp; omega) w
        have sb : ∀ w, (Op.stringOp .add ⟨([102, 32, 61, 32, 40] ++ x).toArray⟩ ⟨#[41, 59]⟩).run Tryz.prog w = .ok (.string ⟨(nestB x).toArray⟩) w := fun w => sadd ([102, 32, 61, 32, 40] ++ x) [41, 59] (by simp; omega) w
        obtain ⟨y, hy⟩ : ∃ y, [102, 32, 61, 32, 40] ++ x = y := ⟨_, rfl⟩
        rw [hy] at sa sb
        have HK3 : Hid (∀ w', Fr Nil Vr w' → w'.cell? ⟨T, 1, none⟩ = some (.slice (some ⟨b, off, none⟩) nb bc) ∧ w'.cell? ⟨b, off + j * 10 + 2, none⟩ = some (.int .i64 (k : Int)) ∧ w'.cell? ⟨b, off + j * 10 + 2 + 1, none⟩ = some (.string nm) ∧ w'.cell? ⟨b, off + j * 10 + 2 + 2, none⟩ = some (.bool fl) ∧ w'.cell? ⟨b, off + j * 10 + 2 + 3, none⟩ = some (.int .u64 (bi : Int)) ∧ w'.cell? ⟨b, off + j * 10 + 2 + 4, none⟩ = some (.slice a0 n0 c0) ∧ w'.cell? ⟨b, off + j * 10 + 2 + 5, none⟩ = some (.slice a1 n1 c1) ∧ w'.cell? ⟨b, off + j * 10 + 2 + 6, none⟩ = some (.slice a2 n2 c2) ∧ w'.cell? ⟨b, off + j * 10 + 2 + 7, none⟩ = some (.slice a3 n3 c3)) := Lib.hid (fun w' f => by
         obtain ⟨_, _, h⟩ := hc w' (HQ.out.comp f)
         exact ⟨(HK2.out w' (HQ.out.comp f)).2, h 0 _ rfl, h 1 _ rfl, h 2 _ rfl, h 3 _ rfl, h 4 _ rfl, h 5 _ rfl, h 6 _ rfl, h 7 _ rfl⟩)
        have hS0 := HK3.out Vr (Fr.refl _ _)
        have zl := World.block_lt_of_cell? _ _ hS0.1
        have bl := World.block_lt_of_cell? _ _ hS0.2.1
        have HE := Lib.hid (And.intro hsx (And.intro hzx hx))
        clear hx hy hEb hc hsx hzx hm9 hpr hpn hbA hlb hE hlx
        rcases hnt with hg | ⟨e, l, hg, hee⟩
        · rw [hg] at hpp
          simp only at hpp
          have HX := Lib.hid (And.intro hps hpp)
          clear hps hpp hg
          obtain ⟨s0, s1, s2, s3, s4, s5, s6, s7, s8⟩ := hS0
          go_wp2_with fail
          refine (HX.out.1 _ (by first | exact Fr.refl _ _ | exact frA)).mono ?_
          rintro r wa ⟨rfl, fa⟩
          have ga : Hid (Fr Nil Vr wa) := Lib.hid (Fr.comp (S := Nil) (by first | exact Fr.refl _ _ | exact frA) fa)
          clear fa
          go_wp2_with fail
          refine (HX.out.2 _ (ga.out.comp (by first | exact Fr.refl _ _ | exact frA))).mono ?_
          rintro r wb ⟨v, rfl, hv, fb⟩
          have gb : Hid (Fr Nil Vr wb) := Lib.hid (ga.out.comp (Fr.comp (S := Nil) (by first | exact Fr.refl _ _ | exact frA) fb))
          clear fb ga
          obtain ⟨d1, d2, g1, g2, e2, cs1, rfl, hE1, hc1⟩ := mval_body hv
          obtain ⟨k', nm', fl', bi', a0', n0', c0', a1', n1', c1', a2', n2', c2', a3', n3', c3', rfl⟩ := hE1.formE
          have p0 := hc1 0 _ rfl
          have p1 := hc1 1 _ rfl
          have p2 := hc1 2 _ rfl
          have p3 := hc1 3 _ rfl
          have p4 := hc1 4 _ rfl
          have p5 := hc1 5 _ rfl
          have p6 := hc1 6 _ rfl
          have p7 := hc1 7 _ rfl
          simp only [Nat.add_zero] at p0
          have l1 := World.block_lt_of_cell? _ _ p0
          have hq : ∀ w', Fr Nil wb w' → Calls Tryz.prog 18 #[.agg #[.int .i64 (k' : Int), .string nm', .bool fl', .int .u64 (bi' : Int), .slice a0' n0' c0', .slice a1' n1' c1', .slice a2' n2' c2', .slice a3' n3' c3']] w' fun r w2 => r = .returned (.string ⟨x.toArray⟩) ∧ Fr Nil w' w2 := fun w' f => by
           have := ps_any _ w' _ (hE1.frN f) HE.out.1 HE.out.2.1 (H3.out.2.2.1.fr (HQ.out.comp (gb.out.comp f)))
           rw [HE.out.2.2] at this
           exact this
          have HQ2 := Lib.hid hq
          clear hv hE1 hc1 hq s0 s1 s2 s3 s4 s5 s6 s7 s8 zl bl sa sb HX
          go_wp2_with fail
          refine (HQ2.out _ (by exact frA)).mono ?_
          rintro r wc ⟨rfl, fc⟩
          have HF := Lib.hid (gb.out.comp (Fr.comp (S := Nil) (by exact frA) fc))
          clear fc
          go_wp2
          go_roundg (nb - (j + 1))
          case rel => exact ⟨j + 1, rfl, by omega, rfl, Lib.hid (HQ.out.comp (HF.out.comp (by exact frA)))⟩
          case measure => omega
        · rw [hg] at hpp
          simp only at hpp
          have HX := Lib.hid (And.intro hps hpp)
          clear hps hpp hg
          obtain ⟨s0, s1, s2, s3, s4, s5, s6, s7, s8⟩ := hS0
          go_wp2_with fail
          refine (HX.out.1 _ (by first | exact Fr.refl _ _ | exact frA)).mono ?_
          rintro r wa ⟨rfl, fa⟩
          have ga : Hid (Fr Nil Vr wa) := Lib.hid (Fr.comp (S := Nil) (by first | exact Fr.refl _ _ | exact frA) fa)
          clear fa
          go_wp2_with fail
          refine (HX.out.2 _ (ga.out.comp (by first | exact Fr.refl _ _ | exact frA))).mono ?_
          rintro r wb ⟨v, rfl, hv, fb⟩
          have gb : Hid (Fr Nil Vr wb) := Lib.hid (ga.out.comp (Fr.comp (S := Nil) (by first | exact Fr.refl _ _ | exact frA) fb))
          clear fb ga
          obtain ⟨d1, d2, e1, e2, rfl, _⟩ := mval_modX hv
          simp only [List.length_nil]
          clear hv s0 s1 s2 s3 s4 s5 s6 s7 s8 zl bl sa sb HX
          rcases hee with rfl | rfl
          all_goals
           go_wp2
           go_roundg (nb - (j + 1))
           case rel => exact ⟨j + 1, rfl, by omega, rfl, Lib.hid (HQ.out.comp (gb.out.comp (by exact frA)))⟩
           case measure => omega
      · have j1 : ¬ (j : Int) < (nb : Int) := by omega
        obtain ⟨z0, z1⟩ := HK2.out Vr HQ.out
        have zl := World.block_lt_of_cell? _ _ z0
        go_wp2
        go_ret
        exact ⟨rfl, H3.out.1.comp (HQ.out.comp (by exact frA))⟩
   · have d3 : (E1 == 0) = false := by simpa using he
     go_wp2
     go_ret
     exact ⟨rfl, H2.out.2.comp (by exact frA)⟩
 · have q1 : (2000 : Int) < (s.size : Int) := by omega
   go_enter Tryz.func9, Tryz.ntmps9
   go_wp2_with fail
   refine HA.out.mono ?_
   rintro e w1 ⟨rfl, f1⟩
   have HF := Lib.hid f1
   clear f1
   go_wp2
   go_ret
   exact ⟨rfl, HF.out⟩
open Go.RowKit Go.ChangeShapes Go.WideShapes
def laid3 : List (String × DataW Unit) := [("math/bits.deBruijn32tab", Rows.laid_math_bits_deBruijn32tab), ("math/bits.deBruijn64tab", Rows.laid_math_bits_deBruijn64tab), ("internal/strconv.uint64pow10", Rows.laid_internal_strconv_uint64pow10)]
def laid7 : List (String × DataW Unit) := laid3 ++ [("unicode/utf8.acceptRanges", Rows.laid_unicode_utf8_acceptRanges), ("strconv.ErrRange", Rows.laid_strconv_ErrRange), ("strconv.ErrSyntax", Rows.laid_strconv_ErrSyntax), ("unicode/utf8.first", Rows.laid_unicode_utf8_first)]
theorem err_of {W : World} (h : laidMet Tryz.prog laid7 W) : ErrV W := by
 obtain ⟨ps, hl, _⟩ := h
 obtain ⟨g0, t0, cs0, fuel0, p0, q0, hg0, ht0, hvar0, hd0, hl, _⟩ := hl
 obtain ⟨g1, t1, cs1, fuel1, p1, q1, hg1, ht1, hvar1, hd1, hl, _⟩ := hl
 obtain ⟨g2, t2, cs2, fuel2, p2, q2, hg2, ht2, hvar2, hd2, hl, _⟩ := hl
 obtain ⟨g3, t3, cs3, fuel3, p3, q3, hg3, ht3, hvar3, hd3, hl, _⟩ := hl
 obtain ⟨g4, t4, cs4, fuel4, p4, q4, hg4, ht4, hvar4, hd4, hl, _⟩ := hl
 have G4 : Tryz.prog.globalNamed "strconv.ErrRange" = some 2 := by kernel_rfl
 obtain rfl := Option.some.inj (G4.symm.trans hg4)
 have T4 : (Tryz.prog.globals[2]?).map (·.type) = some 110 := by kernel_rfl
 obtain rfl := Option.some.inj (T4.symm.trans ht4)
 obtain ⟨l4⟩ := cs4
 obtain ⟨f1, u, v, rfl, _, _⟩ := iface_of_trod Tryz.underlying110 hd4
 exact ⟨.iface u v, by simpa using World.var?_cell G4 hvar4 0, .inr ⟨u, v, rfl⟩⟩
theorem libW_of {W : World} (h : laidMet Tryz.prog laid7 W) (hs : W.ShapedOpen Tryz.prog) : LibW W :=
 ⟨err_of h, cell_of_shapedOpen_int (P := Tryz.prog) (g := 0) (t := 3) (zero := #[.int .i64 0]) hs (of_decide_eq_true (by kernel_rfl)) (by kernel_rfl) rfl (by kernel_rfl) (by kernel_rfl) Tryz.underlying3⟩
theorem tabs_of {rest : List (String × DataW Unit)} {W : World} (h : laidMet Tryz.prog (laid3 ++ rest) W) : Tabs W := by
 obtain ⟨ps, hl, _⟩ := h
 obtain ⟨g0, t0, cs0, fuel0, p0, q0, hg0, ht0, hvar0, hd0, hl, _⟩ := hl
 obtain ⟨g1, t1, cs1, fuel1, p1, q1, hg1, ht1, hvar1, hd1, hl, _⟩ := hl
 obtain ⟨g2, t2, cs2, fuel2, p2, q2, hg2, ht2, hvar2, hd2, hl, _⟩ := hl
 have G1 : Tryz.prog.globalNamed "math/bits.deBruijn64tab" = some 7 := by kernel_rfl
 have G2 : Tryz.prog.globalNamed "internal/strconv.uint64pow10" = some 3 := by kernel_rfl
 obtain rfl := Option.some.inj (G1.symm.trans hg1)
 obtain rfl := Option.some.inj (G2.symm.trans hg2)
 have T1 : (Tryz.prog.globals[7]?).map (·.type) = some 209 := by kernel_rfl
 have T2 : (Tryz.prog.globals[3]?).map (·.type) = some 194 := by kernel_rfl
 obtain rfl := Option.some.inj (T1.symm.trans ht1)
 obtain rfl := Option.some.inj (T2.symm.trans ht2)
 have e1 := Lib.cells_of_tab (zs := Lib.deBruijn64tab.map fun n : Nat => (n : Int)) (k := .u8) (n := 64) Tryz.underlying209 Tryz.underlying5 (by kernel_rfl) (by kernel_rfl) hd1
 have e2 := Lib.cells_of_tab (zs := Lib.pow10Tab) (k := .u64) (n := 20) Tryz.underlying194 Tryz.underlying37 (by kernel_rfl) (by kernel_rfl) hd2
 have P1 : Lib.TabIs Tryz.prog W "math/bits.deBruijn64tab" .u8 (Lib.deBruijn64tab.map fun n : Nat => (n : Int)) := by unfold Lib.TabIs; rw [hvar1, ← e1]
 refine ⟨by unfold Lib.TabIs; rw [hvar2, ← e2], ?_⟩
 exact P1.cell G1 15 (by decide)
theorem both_of {W : World} (h : laidMet Tryz.prog laid7 W) (hs : W.ShapedOpen Tryz.prog) : Tabs W ∧ LibW W := ⟨tabs_of (rest := [("unicode/utf8.acceptRanges", Rows.laid_unicode_utf8_acceptRanges), ("strconv.ErrRange", Rows.laid_strconv_ErrRange), ("strconv.ErrSyntax", Rows.laid_strconv_ErrSyntax), ("unicode/utf8.first", Rows.laid_unicode_utf8_first)]) h, libW_of h hs⟩
noncomputable def low7 : Nat := (World.holding Tryz.prog default ⟨#[], #[], []⟩).heap.size
noncomputable def laidWorld7 (os : Os) : World :=
 let w0 := World.holding Tryz.prog os ⟨#[.cells #[.string ⟨#[118, 97, 108, 117, 101, 32, 111, 117, 116, 32, 111, 102, 32, 114, 97, 110, 103, 101]⟩] 201, .cells #[.string ⟨#[105, 110, 118, 97, 108, 105, 100, 32, 115, 121, 110, 116, 97, 120]⟩] 201], #[], []⟩
 { w0 with heap := ((((((w0.heap.modify 6 fun
  | .cells _ t frozen => .cells (Lib.deBruijn32tab.map fun n : Nat => Value.int .u8 (n : Int)).toArray t frozen
  | o => o).modify 7 fun
  | .cells _ t frozen => .cells (Lib.deBruijn64tab.map fun n : Nat => Value.int .u8 (n : Int)).toArray t frozen
  | o => o).modify 3 fun
  | .cells _ t frozen => .cells (Lib.pow10Tab.map fun n => Value.int .u64 n).toArray t frozen
  | o => o).modify 5 fun
  | .cells _ t frozen => .cells (([128, 191, 160, 191, 128, 159, 144, 191, 128, 143] ++ List.replicate 22 0 : List Int).map fun n => Value.int .u8 n).toArray t frozen
  | o => o).modify 2 fun
  | .cells _ t frozen => .cells #[.iface 199 (.pointer (some ⟨low7, 0, none⟩))] t frozen
  | o => o).modify 1 fun
  | .cells _ t frozen => .cells #[.iface 199 (.pointer (some ⟨low7 + 1, 0, none⟩))] t frozen
  | o => o).modify 4 fun
  | .cells _ t frozen => .cells (Go.Pinned.utf8FirstZ.map fun n : Nat => Value.int .u8 (n : Int)).toArray t frozen
  | o => o }
theorem laidWorld7_met (os : Os) (args : Array Value) : laidMet Tryz.prog laid7 ((laidWorld7 os).forCall (fun _ _ => 0) ⟨#[], args, []⟩).memory :=
 laidMet_of_run' 8 (by kernel_rfl) (by kernel_rfl)
theorem lift_shaped {H : Type} {enc : TypeId × Value → H} {a : Assume} {C : Checked} {os : Os} {f : FuncId} {fn : Func} {s : ChangeSpec} {conds : List PathCond} {apart fresh handsOn again : Bool} {X : World → Prop}
 (hX : ∀ w w' : World, w.heap = w'.heap → X w → X w')
 (own : ownKnob C.prog.godebug = none) (started : os.Started) (noInit : C.prog.inits.idxOf? f = none) (hfn : C.prog.funcs[f]? = some fn)
 (witness : ∃ (w : World) (tape : Tape) (i : Input), w.os = os ∧ (w.forCall tape i).Shaped C.prog ∧ i.vars = [] ∧ Input.okWide C.prog (w.forCall tape i) .any w.heap.size f i ∧
  ((s.pre enc C.prog fn conds apart (w.forCall tape i).memory i.args ∧ X (w.forCall tape i).memory) ∧ sizedMet enc C.prog fn (OpenSpec.ofChange s) apart (w.forCall tape i).memory i.args) ∧ a.holds C.prog (lone (Frame.enter C.prog f i.args .normal) [] (w.forCall tape i)))
 (law : ∀ (W : World) (base : Nat) (args : Array Value) (ds gs : List (DataW H)) (before : List MemPlace),
  (∀ (j : Nat) t v, fn.params[j]? = some t → args[j]? = some v → Value.okWide C.prog W .any base t v) →
  DataW.Whole enc C.prog fn.params.toList s.vars apart W args.toList ds gs before → X W → W.ShapedOpen C.prog →
  Calls C.prog f args W fun e W' => ∃ v, e = .returned v ∧ s.post enc C.prog fn apart fresh handsOn again W args v W') :
 ReturnsInHanded a C os f .any (fun w args => (s.pre enc C.prog fn conds apart w args ∧ X w) ∧ sizedMet enc C.prog fn (OpenSpec.ofChange s) apart w args) (s.post enc C.prog fn apart fresh handsOn again) := by
 refine returnsInHanded_of_calls own started noInit witness fun w tape i _ shaped _ okay met _ => ?_
 rcases okay with ⟨_, _, _, fn', there, _, _, _, _, values⟩
 cases Option.some.inj (there.symm.trans hfn)
 rcases met with ⟨⟨⟨ds, gs, before, whole, _⟩, x⟩, _⟩
 have c := law (w.forCall tape i) w.heap.size i.args ds gs before values (DataW.Whole.of_heap (w' := w.forCall tape i) (by rfl) whole) (hX _ _ (by rfl) x) shaped
 exact c.mono fun e W' h => by
  rcases h with ⟨v, rfl, post⟩
  exact ChangeSpec.post_blind post
end Go.Proofs.YtlnmicddobgppaaGreatDoor
