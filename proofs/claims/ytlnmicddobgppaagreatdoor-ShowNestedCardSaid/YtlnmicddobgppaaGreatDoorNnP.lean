/-
  Contracts of package lex: a token. Conditions: sizes that memory bears, and the library's variables. Contracts of package lex: all tokens of a source. Conditions: sizes that memory bears, and the library's variables.
-/
import Derived.Deep.Onto
import Derived.Test.YtlnmicddobgppaaGreatDoorNnO
import Derived.Test.YtlnmicddobgppaaGreatDoorNnE
import Derived.Test.YtlnmicddobgppaaGreatDoorNnA
namespace Go.Proofs.YtlnmicddobgppaaGreatDoor
set_option maxRecDepth 100000
set_option linter.unusedSimpArgs false
set_option linter.unusedVariables false
open Go.RowKit
theorem one_let {c : UInt8} {r : List UInt8} {line : Nat} (h : letC c = true) : oneF (c :: r) line = (⟨kindF (runF (c :: r)), runF (c :: r), false, 0, line⟩, if 16 < (runF (c :: r)).length then 9 else 0) := by
 unfold letC at h
 unfold oneF
 simp only
 rw [if_pos h]
theorem one_dig {c : UInt8} {r : List UInt8} {line : Nat} (h : letC c = false) (h2 : digC c = true) : oneF (c :: r) line = numberF (runF (c :: r)) line := by
 unfold letC at h
 unfold oneF
 simp only
 rw [if_neg (by rw [h]; decide), if_pos h2]
theorem one_minus {r : List UInt8} {line : Nat} (h : r.head? = some 45) : oneF (35 :: r) line = if runF (r.drop 1) = [] then (none_ line, 3) else numberF (35 :: 45 :: runF (r.drop 1)) line := by
 conv => lhs; unfold oneF
 simp only
 rw [if_neg (by decide), if_neg (by decide), if_pos trivial, if_pos h]
theorem one_plus {r : List UInt8} {line : Nat} (h : r.head? ≠ some 45) : oneF (35 :: r) line = if runF r = [] then (none_ line, 3) else numberF (35 :: runF r) line := by
 conv => lhs; unfold oneF
 simp only
 rw [if_neg (by decide), if_neg (by decide), if_pos trivial, if_neg h]
theorem one_else {c : UInt8} {r : List UInt8} {line : Nat} (h : letC c = false) (h3 : digC c = false) (h4 : c ≠ 35) : oneF (c :: r) line = signF (c :: r) line := by
 unfold letC at h
 rw [Bool.or_eq_false_iff] at h
 exact one_signF h.1 h.2 h3 h4
theorem run_take (l : List UInt8) : l.take (runF l).length = runF l := (List.prefix_iff_eq_take.1 (runF_pre l)).symm
theorem run_len (s : ByteArray) (p : Nat) (hp : p ≤ s.size) : p + (runF (s.data.toList.drop p)).length ≤ s.size := by
 have := (runF_pre (s.data.toList.drop p)).length_le
 rw [List.length_drop, size_of] at this
 omega
theorem minus_test (l : List UInt8) : [(45 : UInt8)].isPrefixOf l = decide (l.head? = some 45) := by
 cases l with
 | nil => rfl
 | cons c r =>
  by_cases h : c = 45
  · subst h; rfl
  · have e : ((45 : UInt8) == c) = false := beq_eq_false_iff_ne.2 (fun q => h q.symm)
    simp [List.isPrefixOf, e, h]
theorem wordC_let {c : UInt8} (h : letC c = true) : wordC c = true := by unfold letC at h; unfold wordC; simp [h]
theorem wordC_dig {c : UInt8} (h : digC c = true) : wordC c = true := by unfold wordC; simp [h]
set_option maxHeartbeats 20000000 in
theorem token_l (b : Nat) (s : ByteArray) (a ln : Nat) (w : World) (h : LexAt w b s a ln) (hL : LibV w b) (hs : s.size ≤ 140737488355328) (ha : a < s.size) :
 Calls Tryz.prog 24 #[.pointer (some ⟨b, 0, none⟩)] w fun e w' => TokRes (oneF (s.data.toList.drop a) ln) b s a ln e w' ∧ Fr (fun k => k = b) w w' := by
 have hcons : s.data.toList.drop a = s[a] :: s.data.toList.drop (a + 1) := drop_cons s a ha
 have hrun := fun w (h : LexAt w b s a ln) p hp => run_l b s a ln w h hs p hp
 have htake := fun w (h : LexAt w b s a ln) to_ h1 h2 => take_l b s a ln w h to_ h1 h2
 have hnum := fun w (h : LexAt w b s a ln) (hL : LibV w b) to_ h1 h2 => number_l b s a ln w h hL hs to_ h1 h2
 have hsgn := fun w (h : LexAt w b s a ln) (hL : LibV w b) => sign_l b s a ln w h hL hs ha
 have HRUN := Lib.hid hrun
 have HTAKE := Lib.hid htake
 have HNUM := Lib.hid hnum
 have HSGN := Lib.hid hsgn
 have HL := Lib.hid hL
 have HC := Lib.hid hcons
 have hbl := h.lt
 clear hrun htake hnum hsgn hL hcons
 have i0 : (0 : Int) ≤ (a : Int) := by omega
 have i1 : (a : Int) < (s.size : Int) := by omega
 go_enter Tryz.func24, Tryz.ntmps24
 go_wp2_with fail
 obtain ⟨W, hW⟩ : ∃ W, W = w.alloc (.cells #[.int .i64 0, .string ⟨#[]⟩, .bool false, .int .u64 0, .int .i64 0] 41) := ⟨_, rfl⟩
 rw [← hW]
 have fW : Fr Nil w W := by rw [hW]; exact frA
 have r1 : Blk W w.heap.size #[.int .i64 0, .string ⟨#[]⟩, .bool false, .int .u64 0, .int .i64 0] 41 := by rw [hW]; exact blk0
 have g1 := h.fr fW
 clear hW h
 have c0 := g1.cell 0
 have c1 := g1.cell 1
 have c2 := g1.cell 2
 simp at c0 c1 c2
 go_wp2_with fail
 go_quiet (fail)
 obtain ⟨V, hV⟩ : ∃ V, V = W.drewN nq := ⟨_, rfl⟩
 rw [← hV]
 have g3 : LexAt V b s a ln := by rw [hV]; exact Blk.drewN g1 _
 have r3 : Blk V w.heap.size #[.int .i64 0, .string ⟨#[]⟩, .bool false, .int .u64 0, .int .i64 0] 41 := by rw [hV]; exact Blk.drewN r1 _
 have f3 : Fr Nil w V := by rw [hV]; exact fW.drewN _
 clear hV g1 r1 fW c0 c1 c2
 have c0 := g3.cell 0
 have c1 := g3.cell 1
 have c2 := g3.cell 2
 simp at c0 c1 c2
 have hbV := g3.lt
 have hwV := r3.lt
 obtain ⟨c, hc⟩ : ∃ c, s[a] = c := ⟨_, rfl⟩
 rw [hc] at HC ⊢
 by_cases h1 : letC c = true
 · have hR : oneF (s.data.toList.drop a) ln = (⟨kindF (runF (s.data.toList.drop a)), runF (s.data.toList.drop a), false, 0, ln⟩, if 16 < (runF (s.data.toList.drop a)).length then 9 else 0) := by rw [HC.out]; exact one_let h1
   have hrl := run_len s a (by omega)
   have hrp : 0 < (runF (s.data.toList.drop a)).length := run_pos s a ha (by rw [hc]; exact wordC_let h1)
   have hru := fun w h => HRUN.out w h a (by omega)
   have htk := fun w h => HTAKE.out w h (a + (runF (s.data.toList.drop a)).length) (by omega) hrl
   have hXt : (s.extract a (a + (runF (s.data.toList.drop a)).length)).data.toList = runF (s.data.toList.drop a) := by rw [extract_from, show a + (runF (s.data.toList.drop a)).length - a = (runF (s.data.toList.drop a)).length by omega, run_take]
   generalize runF (s.data.toList.drop a) = RR at *
   generalize hE : a + RR.length = E at *
   generalize s.extract a E = X at *
   have hXs : X.size = RR.length := by rw [← hXt, size_of]
   have hwd := fun w => word_any X w (by omega)
   rw [hXt] at hwd
   generalize kindF RR = KD at *
   have HRU := Lib.hid hru
   have H41 := Lib.hid htk
   have HR := Lib.hid hR
   have HX := Lib.hid hXt
   have HWD := Lib.hid hwd
   have HN := Lib.hid (And.intro hXs (And.intro hE hrl))
   clear hru htk hR hXt hwd hXs hE hrl hrp HRUN HTAKE HNUM HSGN c0
   go_upto_region 3 with (first
    | (go_at_call 50; refine (letter_any c _).mono ?_; rintro e w4 ⟨rfl, rfl⟩)
    | fail)
   go_cut [5] (fun s6 wx => ∃ g : Nat, s6 = .pointer (some ⟨g, 0, none⟩) ∧ Blk wx g #[.int .i64 0, .string X, .bool false, .int .u64 0, .int .i64 ln] 41 ∧ LexAt wx b s E ln ∧ Blk wx w.heap.size #[.int .i64 0, .string ⟨#[]⟩, .bool false, .int .u64 0, .int .i64 0] 41 ∧ w.heap.size < g ∧ Fr (fun k => k = b) w wx)
   case first =>
    clear HR HX HWD HN HC HL hc h1 i0 i1
    go_region_with (first
     | (go_at_call 52; refine (HRU.out _ (g3.fr (by exact frA))).mono ?_; rintro e w2 ⟨rfl, rfl⟩)
     | (go_at_call 51; (with_reducible refine (H41.out (V.alloc (.cells #[.int .i64 0, .string ⟨#[]⟩, .bool false, .int .u64 0, .int .i64 0] 41)).drew (g3.fr ((Fr.refl Nil V).alloc (.cells #[.int .i64 0, .string ⟨#[]⟩, .bool false, .int .u64 0, .int .i64 0] 41)).drew)).mono ?_); rintro e w2 ⟨rfl, g4, f4⟩; have f04 : Fr (fun k => k = b) w w2 := Fr.trans (by exact frA) f4 (fun _ _ q => q); have hW1 := r3.lt; have hW2 : V.heap.size ≤ w2.heap.size := Nat.le_trans (by simp) f4.size; have r4 := f4.blk (b := w.heap.size) (c := #[.int .i64 0, .string ⟨#[]⟩, .bool false, .int .u64 0, .int .i64 0]) (t := 41) (by exact blk1 r3) (fun q => by have q' : w.heap.size = b := q; omega); have q2 := g4.cell 2; simp at q2; have hb2 := g4.lt; have r5 := Fr.blk (w := (V.alloc (.cells #[.int .i64 0, .string ⟨#[]⟩, .bool false, .int .u64 0, .int .i64 0] 41)).drew) (w1 := w2) f4 (Blk.drew (Blk.new V #[.int .i64 0, .string ⟨#[]⟩, .bool false, .int .u64 0, .int .i64 0] 41)) (fun q => by have q' : V.heap.size = b := q; omega); have u0 := r5.cell 0; have u1 := r5.cell 1; have u2 := r5.cell 2; have u3 := r5.cell 3; have u4 := r5.cell 4; have v0 := r5.free 0; have v1 := r5.free 1; have v2 := r5.free 2; have v3 := r5.free 3; have v4 := r5.free 4; simp at u0 u1 u2 u3 u4; have hl3 := r5.lt)
     | (go_at_call 51; refine (H41.out _ (g3.fr (by exact frA))).mono ?_; rintro e w2 ⟨rfl, g4, f4⟩; have f04 : Fr (fun k => k = b) w w2 := Fr.trans (by exact frA) f4 (fun _ _ q => q); have hW1 := r3.lt; have hW2 : V.heap.size ≤ w2.heap.size := Nat.le_trans (by simp) f4.size; have r4 := f4.blk (b := w.heap.size) (c := #[.int .i64 0, .string ⟨#[]⟩, .bool false, .int .u64 0, .int .i64 0]) (t := 41) (by exact blk1 r3) (fun q => by have q' : w.heap.size = b := q; omega); have q2 := g4.cell 2; simp at q2; have hb2 := g4.lt))
    all_goals
     go_wp2_with fail
     go_meet
     refine ⟨_, rfl, ?_, ?_, ?_, ?_, ?_⟩
     · first
        | (exact blk1 r5 <;> (simp; done))
        | ((unfold Blk; simp (disch := first | omega | (simp; done) | (simp; omega)) only [hp_drew, hp_drewN, hp_alloc, hp_other, hp_same, hp_new, upd_cells, Option.map_some, (r5).eq]); done)
        | (exact blk0 <;> (simp; done))
        | ((unfold Blk; simp (disch := first | omega | (simp; done) | (simp; omega)) only [hp_drew, hp_drewN, hp_alloc, hp_other, hp_same, hp_new, upd_cells, Option.map_some]); done)
     · unfold LexAt
       first
        | ((unfold Blk; simp (disch := first | omega | (simp; done) | (simp; omega)) only [hp_drew, hp_drewN, hp_alloc, hp_other, hp_same, hp_new, upd_cells, Option.map_some, (g4).eq]); done)
        | (exact blk1 g4 <;> (simp; done))
     · first
        | ((unfold Blk; simp (disch := first | omega | (simp; done) | (simp; omega)) only [hp_drew, hp_drewN, hp_alloc, hp_other, hp_same, hp_new, upd_cells, Option.map_some, (r4).eq]); done)
        | (exact blk1 r4 <;> (simp; done))
     · omega
     · exact frA
   case rest =>
    obtain ⟨g, rfl, k1, k2, k3, hg, f5⟩ := hcut
    obtain ⟨wx, rfl⟩ : ∃ V, V = wc := ⟨_, rfl⟩
    clear r3 g3 f3 hbV hwV c1 c2
    have c0 := k1.cell 0
    have c1 := k1.cell 1
    have c2 := k1.cell 2
    have c3 := k1.cell 3
    have c4 := k1.cell 4
    have d0 := k1.free 0
    have d1 := k1.free 1
    have d2 := k1.free 2
    have d3 := k1.free 3
    have d4 := k1.free 4
    simp at c0 c1 c2 c3 c4
    have hgx := k1.lt
    go_wp2_with fail
    refine (HWD.out _).mono ?_
    rintro e w5 ⟨rfl, f6⟩
    have m1 := f6.blk k1 (by simp [Nil])
    have m2 := f6.blk k3 (by simp [Nil])
    have m3 := k2.fr f6
    have f7 : Fr (fun k => k = b) w w5 := f5.trans f6 (fun _ _ q => q.elim)
    clear k1 k2 k3 f5 f6 c0 c1 c2 c3 c4 d0 d1 d2 d3 d4 hgx
    have c0 := m1.cell 0
    have c1 := m1.cell 1
    have c2 := m1.cell 2
    have c3 := m1.cell 3
    have c4 := m1.cell 4
    have d0 := m1.free 0
    have d1 := m1.free 1
    have d2 := m1.free 2
    have d3 := m1.free 3
    have d4 := m1.free 4
    simp at c0 c1 c2 c3 c4
    have q0 := m2.cell 0
    have q1 := m2.cell 1
    have q2 := m2.cell 2
    have q3 := m2.cell 3
    have q4 := m2.cell 4
    have y0 := m2.free 0
    have y1 := m2.free 1
    have y2 := m2.free 2
    have y3 := m2.free 3
    have y4 := m2.free 4
    simp at q0 q1 q2 q3 q4
    have hg5 := m1.lt
    have hw5 := m2.lt
    have hb5 := m3.lt
    have hn1 : g ≠ w.heap.size := by omega
    have hn2 : w.heap.size ≠ g := by omega
    have hbg : b ≠ g := by omega
    have hbw : b ≠ w.heap.size := by omega
    by_cases hl : 16 < RR.length
    · have t5 : decide ((16 : Int) < (X.size : Int)) = true := by rw [HN.out.1]; simpa using (by omega : (16 : Int) < (RR.length : Int))
      rw [if_pos hl] at HR
      go_wp2
      refine bodyPost_ret (v := .tuple #[.agg #[.int .i64 KD, .string X, .bool false, .int .u64 0, .int .i64 ln], .int .i64 9]) (by simp [results, Tryz.results24, go_sem, *]) rfl ⟨?_, by exact frA⟩
      rw [HR.out]
      refine ⟨⟨KD, RR, false, 0, ln⟩, E, by rw [← HX.out]; rfl, fun _ => ⟨rfl, HN.out.2.1.symm⟩, HN.out.2.2, ?_⟩
      unfold LexAt
      exact blk1 m3
    · have t5 : decide ((16 : Int) < (X.size : Int)) = false := by rw [HN.out.1]; simpa using (by omega : (RR.length : Int) ≤ (16 : Int))
      rw [if_neg hl] at HR
      go_wp2
      refine bodyPost_ret (v := .tuple #[.agg #[.int .i64 KD, .string X, .bool false, .int .u64 0, .int .i64 ln], .int .i64 0]) (by simp [results, Tryz.results24, go_sem, *]) rfl ⟨?_, by exact frA⟩
      rw [HR.out]
      refine ⟨⟨KD, RR, false, 0, ln⟩, E, by rw [← HX.out]; rfl, fun _ => ⟨rfl, HN.out.2.1.symm⟩, HN.out.2.2, ?_⟩
      unfold LexAt
      exact blk1 m3
 · rw [Bool.not_eq_true] at h1
   by_cases h2 : digC c = true
   · have hR : oneF (s.data.toList.drop a) ln = numberF (runF (s.data.toList.drop a)) ln := by rw [HC.out]; exact one_dig h1 h2
     have hrl := run_len s a (by omega)
     have hrp : 0 < (runF (s.data.toList.drop a)).length := run_pos s a ha (by rw [hc]; exact wordC_dig h2)
     have hru := HRUN.out V g3 a (by omega)
     have hnu := HNUM.out V g3 (HL.out.fr (f3.mono (fun _ _ q => q.elim))) (a + (runF (s.data.toList.drop a)).length) (by omega) hrl
     rw [extract_from, show a + (runF (s.data.toList.drop a)).length - a = (runF (s.data.toList.drop a)).length by omega, run_take] at hnu
     generalize runF (s.data.toList.drop a) = RR at *
     generalize hE : a + RR.length = E at *
     have HRU := Lib.hid hru
     have HNU := Lib.hid hnu
     have HR := Lib.hid hR
     clear hru hnu hR
     go_wp2_with (first
      | (go_at_call 50; refine (letter_any c _).mono ?_; rintro e w4 ⟨rfl, rfl⟩)
      | (go_at_call 54; refine (digit_any c _).mono ?_; rintro e w4 ⟨rfl, rfl⟩)
      | (go_at_call 52; refine (HRU.out).mono ?_; rintro e w4 ⟨rfl, rfl⟩)
      | fail)
     obtain ⟨⟨k0, x0, fl0, bt0, ln0⟩, er, hN⟩ : ∃ (p : TokV) (er : Int), numberF RR ln = (p, er) := ⟨_, _, rfl⟩
     rw [hN] at HR
     refine (HNU.out).mono ?_
     rw [hN]
     rintro e w4 ⟨rfl, g4, f4⟩
     have hx0 : x0 = RR := by
      have := congrArg (fun p => p.1.text) hN
      exact this.symm
     have f5 : Fr (fun k => k = b) w w4 := (f3.mono (fun _ _ q => q.elim)).comp f4
     have r4 := f4.blk r3 (fun q => by have q' : w.heap.size = b := q; omega)
     clear r3 g3 f3 c0 c1 c2 hN
     simp only [tokV]
     have q0 := r4.cell 0
     have q1 := r4.cell 1
     have q2 := r4.cell 2
     have q3 := r4.cell 3
     have q4 := r4.cell 4
     have y0 := r4.free 0
     have y1 := r4.free 1
     have y2 := r4.free 2
     have y3 := r4.free 3
     have y4 := r4.free 4
     simp at q0 q1 q2 q3 q4
     have hw4 := r4.lt
     have hb4 := g4.lt
     go_wp2
     refine bodyPost_ret (v := .tuple #[.agg #[.int .i64 k0, .string ⟨x0.toArray⟩, .bool fl0, .int .u64 (bt0 : Int), .int .i64 (ln0 : Int)], .int .i64 er]) (by simp [results, Tryz.results24, go_sem, *]) rfl ⟨?_, by exact frA⟩
     rw [HR.out]
     refine ⟨⟨k0, x0, fl0, bt0, ln0⟩, E, rfl, fun _ => ⟨rfl, by rw [hx0]; exact hE.symm⟩, hrl, ?_⟩
     unfold LexAt
     exact blk1 g4
   · rw [Bool.not_eq_true] at h2
     by_cases h3 : c = 35
     · have t3 : ((c.toNat : Int) == 35) = true := by rw [h3]; rfl
       have j0 : (0 : Int) ≤ (a : Int) + 1 := by omega
       have j1 : (a : Int) + 1 ≤ (s.size : Int) := by omega
       have hpr := fun w => pre_any (s.extract (a + 1) s.size) ⟨#[45]⟩ w
       rw [ext_tail, show (⟨#[45]⟩ : ByteArray).data.toList = [45] from rfl, minus_test] at hpr
       have hcz : (s.data.toList.drop a)[0]? = some 35 := by rw [HC.out, h3]; rfl
       by_cases h4 : (s.data.toList.drop (a + 1)).head? = some 45
       · have hp2 : a + 2 ≤ s.size := by
          have : s.data.toList.drop (a + 1) ≠ [] := fun q => by rw [q] at h4; cases h4
          have := List.length_pos_iff.2 this
          rw [List.length_drop, size_of] at this; omega
         rw [decide_eq_true h4] at hpr
         have hdd : (s.data.toList.drop (a + 1)).drop 1 = s.data.toList.drop (a + 2) := by rw [List.drop_drop]
         have hcc : s.data.toList.drop (a + 1) = 45 :: s.data.toList.drop (a + 2) := by
          rw [← hdd]
          cases q : s.data.toList.drop (a + 1) with
          | nil => rw [q] at h4; cases h4
          | cons x y => rw [q] at h4; obtain rfl : x = 45 := by simpa using h4
                        rfl
         have hR : oneF (s.data.toList.drop a) ln = if runF (s.data.toList.drop (a + 2)) = [] then (none_ ln, 3) else numberF (35 :: 45 :: runF (s.data.toList.drop (a + 2))) ln := by rw [HC.out, h3, one_minus h4, hdd]
         have hru := HRUN.out V g3 (a + 2) hp2
         have hrl := run_len s (a + 2) hp2
         rw [show ((a + 2 : Nat) : Int) = (a : Int) + 1 + 1 by omega] at hru
         have htk : (s.data.toList.drop a).take (2 + (runF (s.data.toList.drop (a + 2))).length) = 35 :: 45 :: runF (s.data.toList.drop (a + 2)) := by
          rw [HC.out, h3, show 2 + (runF (s.data.toList.drop (a + 2))).length = (runF (s.data.toList.drop (a + 2))).length + 2 by omega, List.take_succ_cons, hcc, List.take_succ_cons, run_take]
         by_cases h5 : runF (s.data.toList.drop (a + 2)) = []
         · rw [h5] at hru hR
           rw [if_pos rfl] at hR
           have hE : ((a + 2 + ([] : List UInt8).length : Nat) : Int) = (a : Int) + 1 + 1 := by simp <;> omega
           rw [hE] at hru
           have t4 : decide ((a : Int) + 1 + 1 < (a : Int) + 1 + 1) = false := by simp
           have HPR := Lib.hid hpr
           have HRU := Lib.hid hru
           have HR := Lib.hid hR
           clear hpr hru hR htk h5 h4 hcz hrl hE h3 hcc hdd
           have q0 := r3.cell 0
           have q1 := r3.cell 1
           have q2 := r3.cell 2
           have q3 := r3.cell 3
           have q4 := r3.cell 4
           have y0 := r3.free 0
           have y1 := r3.free 1
           have y2 := r3.free 2
           have y3 := r3.free 3
           have y4 := r3.free 4
           simp at q0 q1 q2 q3 q4
           go_wp2_with (first
            | (go_at_call 50; refine (letter_any c _).mono ?_; rintro e w4 ⟨rfl, rfl⟩)
            | (go_at_call 54; refine (digit_any c _).mono ?_; rintro e w4 ⟨rfl, rfl⟩)
            | (go_at_call 52; refine (HRU.out).mono ?_; rintro e w4 ⟨rfl, rfl⟩)
            | (go_at_call 47; refine (HPR.out _).mono ?_; rintro e w4 ⟨rfl, rfl⟩)
            | fail)
           refine bodyPost_ret (v := .tuple #[.agg #[.int .i64 0, .string ⟨#[]⟩, .bool false, .int .u64 0, .int .i64 0], .int .i64 3]) (by simp [results, Tryz.results24, go_sem, *]) rfl ⟨?_, by exact frA⟩
           rw [HR.out]
           refine ⟨none_ 0, a, rfl, fun q => absurd (show (3 : Int) = 0 from q) (by decide), by omega, ?_⟩
           unfold LexAt
           exact blk1 g3
         · rw [if_neg h5] at hR
           have hrp : 0 < (runF (s.data.toList.drop (a + 2))).length := List.length_pos_iff.2 h5
           have hnu := HNUM.out V g3 (HL.out.fr (f3.mono (fun _ _ q => q.elim))) (a + 2 + (runF (s.data.toList.drop (a + 2))).length) (by omega) hrl
           rw [extract_from, show a + 2 + (runF (s.data.toList.drop (a + 2))).length - a = 2 + (runF (s.data.toList.drop (a + 2))).length by omega, htk] at hnu
           clear htk h5
           generalize runF (s.data.toList.drop (a + 2)) = R at *
           generalize hRR : 35 :: 45 :: R = RR at *
           have hRl : RR.length = 2 + R.length := by rw [← hRR]; simp; omega
           generalize hE : a + 2 + R.length = E at *
           have t4 : decide ((a : Int) + 1 + 1 < (E : Int)) = true := by simp; omega
           have HPR := Lib.hid hpr
           have HRU := Lib.hid hru
           have HR := Lib.hid hR
           have HNU := Lib.hid hnu
           clear hpr hru hR hnu h4 hcz hRR h3 hcc hdd
           go_wp2_with (first
            | (go_at_call 50; refine (letter_any c _).mono ?_; rintro e w4 ⟨rfl, rfl⟩)
            | (go_at_call 54; refine (digit_any c _).mono ?_; rintro e w4 ⟨rfl, rfl⟩)
            | (go_at_call 52; refine (HRU.out).mono ?_; rintro e w4 ⟨rfl, rfl⟩)
            | (go_at_call 47; refine (HPR.out _).mono ?_; rintro e w4 ⟨rfl, rfl⟩)
            | fail)
           obtain ⟨⟨k0, x0, fl0, bt0, ln0⟩, er, hN⟩ : ∃ (p : TokV) (er : Int), numberF RR ln = (p, er) := ⟨_, _, rfl⟩
           rw [hN] at HR
           refine (HNU.out).mono ?_
           rw [hN]
           rintro e w4 ⟨rfl, g4, f4⟩
           have hx0 : x0 = RR := by
            have := congrArg (fun p => p.1.text) hN
            exact this.symm
           have f5 : Fr (fun k => k = b) w w4 := (f3.mono (fun _ _ q => q.elim)).comp f4
           have r4 := f4.blk r3 (fun q => by have q' : w.heap.size = b := q; omega)
           clear r3 g3 f3 c0 c1 c2 hN
           simp only [tokV]
           have q0 := r4.cell 0
           have q1 := r4.cell 1
           have q2 := r4.cell 2
           have q3 := r4.cell 3
           have q4 := r4.cell 4
           have y0 := r4.free 0
           have y1 := r4.free 1
           have y2 := r4.free 2
           have y3 := r4.free 3
           have y4 := r4.free 4
           simp at q0 q1 q2 q3 q4
           have hw4 := r4.lt
           have hb4 := g4.lt
           go_wp2
           refine bodyPost_ret (v := .tuple #[.agg #[.int .i64 k0, .string ⟨x0.toArray⟩, .bool fl0, .int .u64 (bt0 : Int), .int .i64 (ln0 : Int)], .int .i64 er]) (by simp [results, Tryz.results24, go_sem, *]) rfl ⟨?_, by exact frA⟩
           rw [HR.out]
           refine ⟨⟨k0, x0, fl0, bt0, ln0⟩, E, rfl, fun _ => ⟨rfl, by show E = a + x0.length; rw [hx0]; omega⟩, hrl, ?_⟩
           unfold LexAt
           exact blk1 g4
       · rw [decide_eq_false h4] at hpr
         have hR : oneF (s.data.toList.drop a) ln = if runF (s.data.toList.drop (a + 1)) = [] then (none_ ln, 3) else numberF (35 :: runF (s.data.toList.drop (a + 1))) ln := by rw [HC.out, h3, one_plus h4]
         have hru := HRUN.out V g3 (a + 1) (by omega)
         have hrl := run_len s (a + 1) (by omega)
         rw [show ((a + 1 : Nat) : Int) = (a : Int) + 1 by omega] at hru
         have htk : (s.data.toList.drop a).take (1 + (runF (s.data.toList.drop (a + 1))).length) = 35 :: runF (s.data.toList.drop (a + 1)) := by
          rw [HC.out, h3, show 1 + (runF (s.data.toList.drop (a + 1))).length = (runF (s.data.toList.drop (a + 1))).length + 1 by omega, List.take_succ_cons, run_take]
         by_cases h5 : runF (s.data.toList.drop (a + 1)) = []
         · rw [h5] at hru hR
           rw [if_pos rfl] at hR
           have hE : ((a + 1 + ([] : List UInt8).length : Nat) : Int) = (a : Int) + 1 := by simp <;> omega
           rw [hE] at hru
           have t4 : decide ((a : Int) + 1 < (a : Int) + 1) = false := by simp
           have HPR := Lib.hid hpr
           have HRU := Lib.hid hru
           have HR := Lib.hid hR
           clear hpr hru hR htk h5 h4 hcz hrl hE h3
           have q0 := r3.cell 0
           have q1 := r3.cell 1
           have q2 := r3.cell 2
           have q3 := r3.cell 3
           have q4 := r3.cell 4
           have y0 := r3.free 0
           have y1 := r3.free 1
           have y2 := r3.free 2
           have y3 := r3.free 3
           have y4 := r3.free 4
           simp at q0 q1 q2 q3 q4
           go_wp2_with (first
            | (go_at_call 50; refine (letter_any c _).mono ?_; rintro e w4 ⟨rfl, rfl⟩)
            | (go_at_call 54; refine (digit_any c _).mono ?_; rintro e w4 ⟨rfl, rfl⟩)
            | (go_at_call 52; refine (HRU.out).mono ?_; rintro e w4 ⟨rfl, rfl⟩)
            | (go_at_call 47; refine (HPR.out _).mono ?_; rintro e w4 ⟨rfl, rfl⟩)
            | fail)
           refine bodyPost_ret (v := .tuple #[.agg #[.int .i64 0, .string ⟨#[]⟩, .bool false, .int .u64 0, .int .i64 0], .int .i64 3]) (by simp [results, Tryz.results24, go_sem, *]) rfl ⟨?_, by exact frA⟩
           rw [HR.out]
           refine ⟨none_ 0, a, rfl, fun q => absurd (show (3 : Int) = 0 from q) (by decide), by omega, ?_⟩
           unfold LexAt
           exact blk1 g3
         · rw [if_neg h5] at hR
           have hrp : 0 < (runF (s.data.toList.drop (a + 1))).length := List.length_pos_iff.2 h5
           have hnu := HNUM.out V g3 (HL.out.fr (f3.mono (fun _ _ q => q.elim))) (a + 1 + (runF (s.data.toList.drop (a + 1))).length) (by omega) hrl
           rw [extract_from, show a + 1 + (runF (s.data.toList.drop (a + 1))).length - a = 1 + (runF (s.data.toList.drop (a + 1))).length by omega, htk] at hnu
           clear htk h5
           generalize runF (s.data.toList.drop (a + 1)) = R at *
           generalize hRR : 35 :: R = RR at *
           have hRl : RR.length = 1 + R.length := by rw [← hRR]; simp; omega
           generalize hE : a + 1 + R.length = E at *
           have t4 : decide ((a : Int) + 1 < (E : Int)) = true := by simp; omega
           have HPR := Lib.hid hpr
           have HRU := Lib.hid hru
           have HR := Lib.hid hR
           have HNU := Lib.hid hnu
           clear hpr hru hR hnu h4 hcz hRR h3
           go_wp2_with (first
            | (go_at_call 50; refine (letter_any c _).mono ?_; rintro e w4 ⟨rfl, rfl⟩)
            | (go_at_call 54; refine (digit_any c _).mono ?_; rintro e w4 ⟨rfl, rfl⟩)
            | (go_at_call 52; refine (HRU.out).mono ?_; rintro e w4 ⟨rfl, rfl⟩)
            | (go_at_call 47; refine (HPR.out _).mono ?_; rintro e w4 ⟨rfl, rfl⟩)
            | fail)
           obtain ⟨⟨k0, x0, fl0, bt0, ln0⟩, er, hN⟩ : ∃ (p : TokV) (er : Int), numberF RR ln = (p, er) := ⟨_, _, rfl⟩
           rw [hN] at HR
           refine (HNU.out).mono ?_
           rw [hN]
           rintro e w4 ⟨rfl, g4, f4⟩
           have hx0 : x0 = RR := by
            have := congrArg (fun p => p.1.text) hN
            exact this.symm
           have f5 : Fr (fun k => k = b) w w4 := (f3.mono (fun _ _ q => q.elim)).comp f4
           have r4 := f4.blk r3 (fun q => by have q' : w.heap.size = b := q; omega)
           clear r3 g3 f3 c0 c1 c2 hN
           simp only [tokV]
           have q0 := r4.cell 0
           have q1 := r4.cell 1
           have q2 := r4.cell 2
           have q3 := r4.cell 3
           have q4 := r4.cell 4
           have y0 := r4.free 0
           have y1 := r4.free 1
           have y2 := r4.free 2
           have y3 := r4.free 3
           have y4 := r4.free 4
           simp at q0 q1 q2 q3 q4
           have hw4 := r4.lt
           have hb4 := g4.lt
           go_wp2
           refine bodyPost_ret (v := .tuple #[.agg #[.int .i64 k0, .string ⟨x0.toArray⟩, .bool fl0, .int .u64 (bt0 : Int), .int .i64 (ln0 : Int)], .int .i64 er]) (by simp [results, Tryz.results24, go_sem, *]) rfl ⟨?_, by exact frA⟩
           rw [HR.out]
           refine ⟨⟨k0, x0, fl0, bt0, ln0⟩, E, rfl, fun _ => ⟨rfl, by show E = a + x0.length; rw [hx0]; omega⟩, hrl, ?_⟩
           unfold LexAt
           exact blk1 g4
     · have t3 : ((c.toNat : Int) == 35) = false := by
        have : c.toNat ≠ 35 := fun q => h3 (u8_of q rfl)
        simp; omega
       have hR : oneF (s.data.toList.drop a) ln = signF (s.data.toList.drop a) ln := by rw [HC.out]; exact one_else h1 h2 h3
       have HR := Lib.hid hR
       have HSG := Lib.hid (HSGN.out V g3 (HL.out.fr (f3.mono (fun _ _ q => q.elim))))
       clear hR HRUN HTAKE HNUM HSGN HL
       go_wp2_with (first
        | (go_at_call 50; refine (letter_any c _).mono ?_; rintro e w4 ⟨rfl, rfl⟩)
        | (go_at_call 54; refine (digit_any c _).mono ?_; rintro e w4 ⟨rfl, rfl⟩)
        | fail)
       refine (HSG.out).mono ?_
       rintro e w4 ⟨⟨⟨k0, x0, fl0, bt0, ln0⟩, a4, rfl, HI, ha4, g4⟩, f4⟩
       have HI := Lib.hid HI
       have f5 : Fr (fun k => k = b) w w4 := (f3.mono (fun _ _ q => q.elim)).comp f4
       have r4 := f4.blk r3 (fun q => by have q' : w.heap.size = b := q; omega)
       clear r3 g3 f3 c0 c1 c2
       simp only [tokV]
       have q0 := r4.cell 0
       have q1 := r4.cell 1
       have q2 := r4.cell 2
       have q3 := r4.cell 3
       have q4 := r4.cell 4
       have y0 := r4.free 0
       have y1 := r4.free 1
       have y2 := r4.free 2
       have y3 := r4.free 3
       have y4 := r4.free 4
       simp at q0 q1 q2 q3 q4
       have hw4 := r4.lt
       have hb4 := g4.lt
       obtain ⟨er, her⟩ : ∃ er, (signF (s.data.toList.drop a) ln).2 = er := ⟨_, rfl⟩
       rw [her]
       have HE := Lib.hid her
       clear her
       go_wp2
       refine bodyPost_ret (v := .tuple #[.agg #[.int .i64 k0, .string ⟨x0.toArray⟩, .bool fl0, .int .u64 (bt0 : Int), .int .i64 (ln0 : Int)], .int .i64 er]) (by simp [results, Tryz.results24, go_sem, *]) rfl ⟨?_, by exact frA⟩
       rw [HR.out]
       refine ⟨⟨k0, x0, fl0, bt0, ln0⟩, a4, by rw [HE.out]; rfl, HI.out, ha4, ?_⟩
       unfold LexAt
       exact blk1 g4
structure LibW (w : World) : Prop where
 err : ErrV w
 len : ∃ m : Int, w.cell? ⟨0, 0, none⟩ = some (.int .i64 m)
theorem LibW.new {w : World} (h : LibW w) : LibV w w.heap.size := by
 obtain ⟨⟨ev, h1, h2⟩, ⟨m, h3⟩⟩ := h
 have e1 := World.block_lt_of_cell? w _ h1
 have e3 := World.block_lt_of_cell? w _ h3
 exact ⟨⟨ev, h1, h2⟩, ⟨m, h3⟩, by simp at e1; omega, by simp at e3; omega⟩
theorem LibW.fr {w w1 : World} (h : LibW w) (f : Fr Nil w w1) : LibW w1 := by
 obtain ⟨⟨ev, h1, h2⟩, ⟨m, h3⟩⟩ := h
 exact ⟨⟨ev, f.cell h1 (fun q => q), h2⟩, ⟨m, f.cell h3 (fun q => q)⟩⟩
theorem ToksAt.frb {base b : Nat} {w w' : World} {v : Value} {l : List TokV} (h : ToksAt base w v l) (f : Fr (fun k => k = b) w w') (hb : b < base) : ToksAt base w' v l := by
 unfold ToksAt at h ⊢
 have hlt := h.lt
 refine h.kept (row := some b) ⟨f.os, f.tape, f.output, f.size, fun k hk hn => f.block k hk (fun q => hn (by rw [q]))⟩ ?_
 cases hv : v.ownBlock with
 | none => exact .inl rfl
 | some k => exact .inr (fun q => by
  have := hlt k hv
  have : k = b := by simpa using q
  omega)
set_option maxHeartbeats 2000000 in
theorem lex_any (s : ByteArray) (w : World) (hW : LibW w) (hs : s.size ≤ 140737488355328) :
 Calls Tryz.prog 14 #[.string s] w fun e w' => ∃ v, e = .returned (.tuple #[v, .int .i64 (lexF s.data.toList).err, .int .i64 ((lexF s.data.toList).line : Int)]) ∧ ToksAt w.heap.size w' v (lexF s.data.toList).toks ∧ Fr Nil w w' := by
 obtain ⟨i0, hi, hz0, hz1, hz2⟩ := info_parts infoTok
 obtain ⟨R, hR⟩ : ∃ R, lexF s.data.toList = R := ⟨_, rfl⟩
 rw [hR]
 obtain ⟨T, hT⟩ : ∃ T, skipF false s.data.toList 1 = T := ⟨_, rfl⟩
 have hlex : lexG (s.size + 1) [] T.1 T.2 = R := by
  rw [← hR, ← hT]
  unfold lexF
  rw [size_of]
 have hskip := fun w' (h : LexAt w' w.heap.size s 0 1) => skip_l w.heap.size s 0 1 w' h (by omega) (Nat.zero_le _) (by omega)
 simp only [List.drop_zero, hT] at hskip
 have hTd : T.1 = s.data.toList.drop (s.size - T.1.length) := by rw [← hT, ← size_of s]; exact skipF_drop _ _ _
 have hTl : T.2 ≤ 1 + (s.size - T.1.length) := by
  have h1 := skipF_line false s.data.toList 1
  rw [hT, size_of] at h1
  omega
 obtain ⟨a0, ha0⟩ : ∃ a0, s.size - T.1.length = a0 := ⟨_, rfl⟩
 rw [ha0] at hTd hTl
 simp only [ha0] at hskip
 rw [hTd] at hlex
 have ha0s : a0 ≤ s.size := by omega
 obtain ⟨l0, hl0⟩ : ∃ l0, T.2 = l0 := ⟨_, rfl⟩
 rw [hl0] at hTl hlex
 simp only [hl0] at hskip
 have HLEX := Lib.hid hlex
 have HSKIP := Lib.hid hskip
 have HLV := Lib.hid hW.new
 clear hR hT hlex hskip hTd ha0 hl0 hW
 go_enter Tryz.func14, Tryz.ntmps14
 go_wp2_with fail
 refine (HSKIP.out _ (show Blk _ _ #[.string s, .int .i64 0, .int .i64 1] _ by exact blk0)).mono ?_
 rintro e w1 ⟨rfl, g1, f1⟩
 have fW : Fr Nil w w1 := Fr.trans (by exact frA) f1 (fun k hk q => by have q' : k = w.heap.size := q; omega)
 clear f1
 go_wp2_with fail
 go_loopg [6] (s.size - a0) (fun g vo wr => ∃ (acc : List TokV) (a ln f : Nat) (v : Value), v = vo ∧ g = s.size - a ∧ a ≤ s.size ∧ ln ≤ 1 + a ∧ s.size + 1 ≤ f + a ∧ acc.length ≤ 4096 ∧ Hid (lexG f acc (s.data.toList.drop a) ln = R) ∧ ToksAt (w.heap.size + 1) wr v acc ∧ LexAt wr w.heap.size s a ln ∧ Fr Nil w wr)
 case atStart => exact ⟨[], a0, l0, s.size + 1, _, rfl, rfl, ha0s, hTl, by omega, by simp, HLEX, World.ownsRow_nil _ _ _ _, g1, fW⟩
 case round =>
  obtain ⟨acc, a, ln, f, v, rfl, rfl, ha, hln, hf, hacc, HL, hv, g2, hw⟩ := hrel
  clear HLEX HSKIP hTl ha0s g1 fW
  have c1 := g2.cell 1
  simp at c1
  by_cases hz : a < s.size
  · obtain ⟨f, rfl⟩ : ∃ g, f = g + 1 := ⟨f - 1, by omega⟩
    have hne : s.data.toList.drop a ≠ [] := by rw [drop_cons s a hz]; simp
    have i1 : (a : Int) < (s.size : Int) := by omega
    have hpre := oneF_pre (s.data.toList.drop a) ln
    have hone := token_l w.heap.size s a ln wr g2 (HLV.out.fr (hw.mono (fun _ _ q => q.elim))) hs hz
    have hbad := fun h => lexG_bad (n := f) (acc := acc) (line := ln) hne h
    have hful := fun h => lexG_full (n := f) (acc := acc) (line := ln) hne h
    have hmor := fun h => lexG_more (n := f) (acc := acc) (line := ln) hne h
    obtain ⟨tk, er, hp⟩ : ∃ tk er, oneF (s.data.toList.drop a) ln = (tk, er) := ⟨_, _, rfl⟩
    rw [hp] at hpre hbad hful hmor
    simp only [hp] at hone
    unfold TokRes at hone
    simp only at hpre hbad hful hmor hone
    have HONE := Lib.hid hone
    have HPRE := Lib.hid hpre
    obtain ⟨vf, cp, hvf⟩ : ∃ vf cp, v = .slice vf acc.length cp := owns_shape hv
    subst hvf
    have HV := Lib.hid hv
    clear hone hpre hp hne hv
    by_cases he : er = 0
    · subst he
      by_cases hfull : acc.length = 4096
      · have hr := hful rfl hfull
        rw [HL.out] at hr
        have HR := Lib.hid hr
        have t3 : decide ((4096 : Int) ≤ (acc.length : Int)) = true := by simp; omega
        clear hbad hful hmor hr HL
        go_wp2_with fail
        refine (HONE.out).mono ?_
        rintro e w2 ⟨⟨tt, a2, rfl, hq, ha2, g3⟩, f2⟩
        have fw2 : Fr Nil w w2 := hw.trans f2 (fun k hk q => by have q' : k = w.heap.size := q; omega)
        clear hq HONE g2 c1 HV f2
        have c2 := g3.cell 2
        simp at c2
        have hb2 := g3.lt
        unfold tokV
        go_wp2
        go_quiet (fail)
        go_wp2
        go_ret3
        refine ⟨.slice none 0 0, by rw [HR.out]; rfl, by rw [HR.out]; exact World.ownsRow_nil _ _ _ _, ?_⟩
        exact frA
      · have hr := hmor rfl hfull
        rw [HL.out] at hr
        obtain ⟨hp1, hp2, hp3⟩ := HPRE.out rfl
        clear hp3
        obtain ⟨X, hX⟩ : ∃ X : ByteArray, (⟨tk.text.toArray⟩ : ByteArray) = X := ⟨_, rfl⟩
        have hXs : tk.text.length = X.size := by rw [← hX]; simp [ByteArray.size]
        have hpl := hp1.length_le
        rw [List.length_drop, size_of] at hpl
        have hsk : ∀ w', LexAt w' w.heap.size s (a + X.size) ln → _ := fun w' h => skip_l w.heap.size s (a + X.size) ln w' h (by omega) (by omega) (by omega)
        rw [List.drop_drop, hXs] at hr
        have q1 := skipF_len false (s.data.toList.drop (a + X.size)) ln
        have q2 := skipF_line false (s.data.toList.drop (a + X.size)) ln
        have q3 := skipF_drop false (s.data.toList.drop (a + X.size)) ln
        rw [List.length_drop, size_of] at q1 q2 q3
        rw [List.drop_drop] at q3
        obtain ⟨T, hT⟩ : ∃ T, skipF false (s.data.toList.drop (a + X.size)) ln = T := ⟨_, rfl⟩
        rw [hT] at hr q1 q2 q3
        simp only [hT] at hsk
        obtain ⟨a1, ha1⟩ : ∃ a1, s.size - T.1.length = a1 := ⟨_, rfl⟩
        obtain ⟨l1, hl1⟩ : ∃ l1, T.2 = l1 := ⟨_, rfl⟩
        have q4 : a + X.size + (s.size - (a + X.size) - T.1.length) = a1 := by omega
        rw [q4] at q3
        rw [q3, hl1] at hr
        simp only [ha1, hl1] at hsk
        have r1 : a1 ≤ s.size := by omega
        have r2 : a + 1 ≤ a1 := by omega
        have r3 : l1 ≤ 1 + a1 := by omega
        have t3 : decide ((4096 : Int) ≤ (acc.length : Int)) = false := by simp; omega
        have HR := Lib.hid hr
        have HSK := Lib.hid hsk
        have HX := Lib.hid hX
        have HXS := Lib.hid hXs
        have hgs := hw.size
        clear hbad hful hmor hr HL hT q1 q2 q3 q4 ha1 hl1 hsk hX hXs hp1 hp2 hpl
        go_wp2_with fail
        refine (HONE.out).mono ?_
        rintro e w2 ⟨⟨tt, a2, rfl, hq, ha2, g3⟩, f2⟩
        obtain ⟨hq', ha'⟩ := hq (by trivial)
        subst hq'
        rw [HXS.out] at ha'
        subst ha'
        have fw2 : Fr Nil w w2 := hw.trans f2 (fun k hk q => by have q' : k = w.heap.size := q; omega)
        have HV2 := Lib.hid (ToksAt.frb HV.out f2 (by omega))
        have hlt := HV2.out.lt
        have HLT := Lib.hid hlt
        clear hq HONE HPRE g2 c1 HV f2 hlt
        unfold tokV
        rw [HX.out]
        have hs2 := fw2.size
        have hb2 := g3.lt
        go_wp2_with (first
         | (at_builtin; refine wpList_append_src rfl (.tmp 42) (.tmp 44) 34 rfl (w.heap.size + 1) 41 i0 (.agg #[.int .i64 0, .string ⟨#[]⟩, .bool false, .int .u64 0, .int .i64 0]) 5 48 Tryz.underlying34 hi hz0 hz1 hz2 rfl (by decide) (.slice vf acc.length cp) acc.length (flatT acc) rfl (HV2.out.fr (by exact frA)) (some ⟨w2.heap.size + 1, 0, none⟩) 1 1 [.int .i64 tt.kind, .string X, .bool tt.flt, .int .u64 (tt.bits : Int), .int .i64 (tt.line : Int)] rfl (blk_src5 (t := 41) (by exact blk0)) (by simp [Value.oneCell']) (by unfold maxLen; omega) (by omega) (by have := fw2.size; simp; omega) ?_; intro v' w3 hown hgrow hat; have fg := (Fr.refl (fun k => (Value.slice vf acc.length cp).ownBlock = some k) _).grown hgrow (fun k q _ => q); have s3 := fg.blk (b := w.heap.size) (c := #[.string s, .int .i64 ((a + X.size : Nat) : Int), .int .i64 (ln : Int)]) (t := 71) (by exact blk1 g3) (fun q => by have := HLT.out _ q; omega); have f3 : Fr Nil w w3 := Fr.trans (by exact frA) fg (fun k hk q => by have := HLT.out k q; omega); have HOWN := Lib.hid hown; obtain ⟨g, cap, rfl⟩ := Joins.ownsRow_form hown (by omega); clear hown hgrow hat fg)
         | (go_at_call 23; refine (HSK.out _ s3).mono ?_; rintro e w4 ⟨rfl, g4, f4⟩; have f5 : Fr Nil w w4 := f3.trans f4 (fun k hk q => by have q' : k = w.heap.size := q; omega); have HO4 := Lib.hid (ToksAt.frb (l := acc ++ [tt]) (base := w.heap.size + 1) (by have := HOWN.out; unfold ToksAt; rw [flatT_snoc]; unfold tokCells; rw [HX.out]; simpa using this) f4 (by omega))))
        go_roundg (s.size - a1)
        case rel => exact ⟨acc ++ [tt], a1, l1, f, _, rfl, rfl, r1, r3, by omega, by simp; omega, Lib.hid HR.out.symm, by simpa using HO4.out, g4, f5⟩
        case measure => omega
    · have hr := hbad he
      rw [HL.out] at hr
      have HR := Lib.hid hr
      have t1 : (er == 0) = false := by simpa using he
      have t2 : (er != 0) = true := by simpa using he
      clear hbad hful hmor hr he HL
      go_wp2_with fail
      refine (HONE.out).mono ?_
      rintro e w2 ⟨⟨tt, a2, rfl, hq, ha2, g3⟩, f2⟩
      have fw2 : Fr Nil w w2 := hw.trans f2 (fun k hk q => by have q' : k = w.heap.size := q; omega)
      clear hq HONE g2 c1 HV f2
      have c2 := g3.cell 2
      simp at c2
      have hb2 := g3.lt
      unfold tokV
      go_wp2
      go_quiet (fail)
      go_wp2
      go_ret3
      refine ⟨.slice none 0 0, by rw [HR.out]; rfl, by rw [HR.out]; exact World.ownsRow_nil _ _ _ _, ?_⟩
      exact frA
  · have hr := HL.out
    rw [drop_end s a (by omega), lexG_end] at hr
    have HR := Lib.hid hr
    have HV := Lib.hid hv
    obtain ⟨vf, cp, rfl⟩ := owns_shape hv
    have i1 : ¬ (a : Int) < (s.size : Int) := by omega
    clear hr HL hv
    go_wp2
    go_ret3
    refine ⟨.slice vf acc.length cp, by rw [← HR.out]; rfl, by rw [← HR.out]; exact World.ownsRow.mono HV.out (by omega), ?_⟩
    exact frA
end Go.Proofs.YtlnmicddobgppaaGreatDoor
