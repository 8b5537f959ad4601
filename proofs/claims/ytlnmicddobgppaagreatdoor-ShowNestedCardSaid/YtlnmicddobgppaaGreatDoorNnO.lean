/-
  The signs, longer ones first, against the longest of two lists: plain lists. No conditions. Contracts of package lex: a run's end; what is taken; a number. Conditions: sizes that memory bears, and the library's variables. Contracts of package lex: a sign. Conditions: sizes that memory bears, and the library's variables.
-/
import Derived.Deep.RegionHeld3
import Derived.Deep.DeepCutAuto
import Derived.Laws.Rows
import Derived.Laws.Tables
import Derived.Test.YtlnmicddobgppaaGreatDoorNnC
import Derived.Test.YtlnmicddobgppaaGreatDoorNnN
import Derived.Test.YtlnmicddobgppaaGreatDoorNnM
import Derived.Test.YtlnmicddobgppaaGreatDoorNnA
namespace Go.Proofs.YtlnmicddobgppaaGreatDoor
set_option maxRecDepth 100000
set_option linter.unusedSimpArgs false
set_option linter.unusedVariables false
open Go.RowKit
def signsL : List (List UInt8) := [[61, 61, 46], [45, 62], [61, 61], [43, 46], [45, 46], [42, 46], [47, 46], [60, 46], [43], [45], [42], [47], [37], [60], [40], [41], [123], [125], [59], [61], [92]]
theorem long_max (l : List UInt8) (cs : List (List UInt8)) : ∀ b, b.length ≤ (cs.foldl (stepL l) b).length ∧ ∀ c ∈ cs, c <+: l → c.length ≤ (cs.foldl (stepL l) b).length := by
 induction cs with
 | nil => intro b; exact ⟨Nat.le_refl _, by simp⟩
 | cons x cs ih =>
  intro b
  have h1 := ih (stepL l b x)
  have hb : b.length ≤ (stepL l b x).length := by
   unfold stepL
   split
   · rename_i h; simp at h; omega
   · exact Nat.le_refl _
  refine ⟨Nat.le_trans hb h1.1, fun c hc hp => ?_⟩
  rcases List.mem_cons.1 hc with rfl | hc
  · refine Nat.le_trans ?_ h1.1
    unfold stepL
    split
    · exact Nat.le_refl _
    · rename_i h
      simp only [Bool.and_eq_true, decide_eq_true_eq, not_and] at h
      have := h (List.isPrefixOf_iff_prefix.2 hp)
      omega
  · exact h1.2 c hc hp
theorem long_mem (l : List UInt8) (cs : List (List UInt8)) : ∀ b, cs.foldl (stepL l) b = b ∨ cs.foldl (stepL l) b ∈ cs := by
 induction cs with
 | nil => intro b; exact .inl rfl
 | cons x cs ih =>
  intro b
  rcases ih (stepL l b x) with h | h
  · unfold stepL at h
    simp only [List.foldl_cons]
    by_cases g : (x.isPrefixOf l && decide (b.length < x.length)) = true
    · rw [if_pos g] at h
      exact .inr (by unfold stepL; rw [if_pos g, h]; simp)
    · rw [if_neg g] at h
      exact .inl (by unfold stepL; rw [if_neg g, h])
  · exact .inr (List.mem_cons_of_mem _ h)
theorem pre_same {l a b : List UInt8} (ha : a <+: l) (hb : b <+: l) (h : a.length = b.length) : a = b := by
 rw [List.prefix_iff_eq_take] at ha hb
 rw [ha, hb, h]
def signF (l : List UInt8) (line : Nat) : TokV × Int :=
 if (longF l opsL).length < (longF l punctsL).length then (⟨6, longF l punctsL, false, 0, line⟩, 0)
 else if longF l opsL = [] then (none_ line, 3)
 else (⟨4, longF l opsL, false, 0, line⟩, 0)
theorem sorted_signs : List.Pairwise (fun a b : List UInt8 => b.length ≤ a.length) signsL := by decide
theorem sign_none {l : List UInt8} (line : Nat) (h : ∀ c ∈ signsL, c.isPrefixOf l = false) : signF l line = (none_ line, 3) := by
 have key : ∀ cs : List (List UInt8), (∀ c ∈ cs, c ∈ signsL) → longF l cs = [] := by
  intro cs hcs
  rcases long_mem l cs [] with g | g
  · exact g
  · have hp : longF l cs <+: l := longF_pre l cs
    have := h _ (hcs _ g)
    rw [show (cs.foldl (stepL l) []) = longF l cs from rfl, List.isPrefixOf_iff_prefix.2 hp] at this
    cases this
 unfold signF
 rw [key opsL (by decide), key punctsL (by decide)]
 rfl
theorem sign_some {l : List UInt8} (line k : Nat) (hk : k < signsL.length) (hp : signsL[k].isPrefixOf l = true) (hn : ∀ j, (h : j < signsL.length) → j < k → signsL[j].isPrefixOf l = false) :
 signF l line = (⟨if signsL[k] ∈ punctsL then 6 else 4, signsL[k], false, 0, line⟩, 0) := by
 have hmax : ∀ c ∈ signsL, c <+: l → c.length ≤ signsL[k].length := by
  intro c hc hcp
  obtain ⟨j, hj, rfl⟩ := List.mem_iff_getElem.1 hc
  rcases Nat.lt_trichotomy j k with g | g | g
  · have := hn j hj g
    rw [List.isPrefixOf_iff_prefix.2 hcp] at this
    cases this
  · subst g; exact Nat.le_refl _
  · exact List.pairwise_iff_getElem.1 sorted_signs k j hk hj g
 have hpos : ∀ c ∈ signsL, 0 < c.length := by decide
 have hdis : ∀ c ∈ signsL, (c ∈ punctsL ∧ c ∉ opsL) ∨ (c ∉ punctsL ∧ c ∈ opsL) := by decide
 have hin1 : ∀ c ∈ opsL, c ∈ signsL := by decide
 have hin2 : ∀ c ∈ punctsL, c ∈ signsL := by decide
 have hmem : signsL[k] ∈ signsL := List.getElem_mem hk
 have hpre : signsL[k] <+: l := List.isPrefixOf_iff_prefix.1 hp
 have hlo := fun (cs : List (List UInt8)) (h : ∀ c ∈ cs, c ∈ signsL) => (show (longF l cs).length ≤ signsL[k].length from by
  rcases long_mem l cs [] with g | g
  · rw [show longF l cs = [] from g]; simp
  · exact hmax _ (h _ g) (longF_pre l cs))
 have hpos1 := hpos _ hmem
 unfold signF
 rcases hdis _ hmem with ⟨d1, d2⟩ | ⟨d1, d2⟩
 · have hpl : signsL[k].length ≤ (longF l punctsL).length := (long_max l punctsL []).2 _ d1 hpre
   have hpe : longF l punctsL = signsL[k] := pre_same (longF_pre _ _) hpre (Nat.le_antisymm (hlo punctsL hin2) hpl)
   have hol : (longF l opsL).length < (longF l punctsL).length := by
    rw [hpe]
    have h1 := hlo opsL hin1
    rcases Nat.lt_or_ge (longF l opsL).length signsL[k].length with g | g
    · exact g
    · have e : longF l opsL = signsL[k] := pre_same (longF_pre _ _) hpre (Nat.le_antisymm h1 g)
      rcases long_mem l opsL [] with q | q
      · rw [show longF l opsL = [] from q] at e
        rw [← e] at hpos1
        simp at hpos1
      · rw [show (opsL.foldl (stepL l) []) = longF l opsL from rfl, e] at q
        exact absurd q d2
   rw [if_pos hol, hpe, if_pos d1]
 · have hol : signsL[k].length ≤ (longF l opsL).length := (long_max l opsL []).2 _ d2 hpre
   have hoe : longF l opsL = signsL[k] := pre_same (longF_pre _ _) hpre (Nat.le_antisymm (hlo opsL hin1) hol)
   have hne : ¬ (longF l opsL).length < (longF l punctsL).length := by
    rw [hoe]
    have := hlo punctsL hin2
    omega
   rw [if_neg hne, hoe, if_neg (fun e => by rw [e] at hpos1; simp at hpos1), if_neg d1]
theorem one_signF {c : UInt8} {r : List UInt8} {line : Nat} (h1 : smallC c = false) (h2 : capC c = false) (h3 : digC c = false) (h4 : c ≠ 35) : oneF (c :: r) line = signF (c :: r) line := by
 unfold oneF signF
 simp only
 rw [if_neg (by simp [h1, h2]), if_neg (by simp [h3]), if_neg h4]
structure LibV (w : World) (b : Nat) : Prop where
 err : ErrV w
 len : ∃ m : Int, w.cell? ⟨0, 0, none⟩ = some (.int .i64 m)
 apart : 2 ≠ b ∧ 0 ≠ b
theorem LibV.fr {w w1 : World} {b : Nat} (h : LibV w b) (f : Fr (fun k => k = b) w w1) : LibV w1 b := by
 obtain ⟨⟨ev, h1, h2⟩, ⟨m, h3⟩, h4, h5⟩ := h
 exact ⟨⟨ev, f.cell h1 (fun q => h4 q), h2⟩, ⟨m, f.cell h3 (fun q => h5 q)⟩, h4, h5⟩
theorem LexAt.fr {w w1 : World} {b : Nat} {s : ByteArray} {a ln : Nat} (h : LexAt w b s a ln) (f : Fr Nil w w1) : LexAt w1 b s a ln := f.blk h (by simp [Nil])
theorem LexAt.lt {w : World} {b : Nat} {s : ByteArray} {a ln : Nat} (h : LexAt w b s a ln) : b < w.heap.size := Blk.lt h
section
variable (b : Nat) (s : ByteArray) (a ln : Nat) (w : World) (h : LexAt w b s a ln) (hs : s.size ≤ 140737488355328) (ha : a ≤ s.size)
include h hs
theorem run_l (p : Nat) (hp : p ≤ s.size) :
 Calls Tryz.prog 52 #[.pointer (some ⟨b, 0, none⟩), .int .i64 p] w fun e w' => e = .returned (.int .i64 ((p + (runF (s.data.toList.drop p)).length : Nat) : Int)) ∧ w = w' := by
 have hw : Calls Tryz.prog 48 #[.pointer (some ⟨b, 0, none⟩), .int .i64 p, .func (.func 88) #[] #[]] w fun e w' => e = .returned (.int .i64 ((p + (runF (s.data.toList.drop p)).length : Nat) : Int)) ∧ w' = w := while_word b s a ln p w h (by omega) hp
 generalize ((p + (runF (s.data.toList.drop p)).length : Nat) : Int) = E at *
 have HW := Lib.hid hw
 clear hw h
 go_enter Tryz.func52, Tryz.ntmps52
 go_wp2_with (go_at_call 48; refine HW.out.mono ?_; rintro e w1 ⟨rfl, rfl⟩)
 go_ret
 exact ⟨rfl, rfl⟩
omit hs in
theorem take_l (to_ : Nat) (h1 : a ≤ to_) (h2 : to_ ≤ s.size) :
 Calls Tryz.prog 51 #[.pointer (some ⟨b, 0, none⟩), .int .i64 to_] w fun e w' => e = .returned (.string (s.extract a to_)) ∧ LexAt w' b s to_ ln ∧ Fr (fun k => k = b) w w' := by
 have c0 := h.cell 0
 have c1 := h.cell 1
 simp at c0 c1
 have i0 : (0 : Int) ≤ (a : Int) := by omega
 have i1 : (a : Int) ≤ (to_ : Int) := by omega
 have i2 : (to_ : Int) ≤ (s.size : Int) := by omega
 go_enter Tryz.func51, Tryz.ntmps51
 go_wp2
 go_quiet (fail)
 obtain ⟨V, hV⟩ : ∃ V, V = w.drewN nq := ⟨_, rfl⟩
 rw [← hV]
 have g1 : LexAt V b s a ln := by rw [hV]; exact Blk.drewN h _
 have f1 : Fr Nil w V := by rw [hV]; exact frA
 clear hV c0 c1 h nq
 have c1 := g1.cell 1
 have x1 := g1.free 1
 have hl := g1.lt
 simp at c1
 go_wp2
 go_ret
 refine ⟨rfl, ?_, by exact frA⟩
 unfold LexAt
 (unfold Blk; simp (disch := first | omega | (simp; done) | (simp; omega)) only [hp_drew, hp_drewN, hp_alloc, hp_other, hp_same, hp_new, upd_cells, Option.map_some, (g1).eq])
 simp
end
theorem trim_hash (X : List UInt8) : Lib.trimPrefix X [35] = hashOff X := by
 unfold Lib.trimPrefix Lib.hasPrefix hashOff
 cases X with
 | nil => rfl
 | cons c r =>
  by_cases h : c = 35
  · subst h; rfl
  · have e : List.isPrefixOf [35] (c :: r) = false := by
     simp [List.isPrefixOf]
     exact fun q => h q.symm
    rw [e, if_neg (by simp), if_neg (by simpa using h)]
set_option maxHeartbeats 1000000 in
theorem number_l (b : Nat) (s : ByteArray) (a ln : Nat) (w : World) (h : LexAt w b s a ln) (hL : LibV w b) (hs : s.size ≤ 140737488355328) (to_ : Nat) (h1 : a < to_) (h2 : to_ ≤ s.size) :
 Calls Tryz.prog 55 #[.pointer (some ⟨b, 0, none⟩), .int .i64 to_] w fun e w' => e = .returned (.tuple #[tokV (numberF (s.extract a to_).data.toList ln).1, .int .i64 (numberF (s.extract a to_).data.toList ln).2]) ∧ LexAt w' b s to_ ln ∧ Fr (fun k => k = b) w w' := by
 obtain ⟨X, hX⟩ : ∃ X, s.extract a to_ = X := ⟨_, rfl⟩
 have hXs : X.size ≤ 140737488355328 := by rw [← hX]; simp; omega
 have htk := fun w h => take_l b s a ln w h to_ (by omega) h2
 have htr := fun w => Tryz.strings_TrimPrefixB X ⟨#[35]⟩ w
 rw [hX] at htk ⊢
 simp only [trim_hash] at htr
 have hpl : (hashOff X.data.toList).length ≤ X.size := by
  unfold hashOff
  rw [← size_of X]
  split
  · rw [List.length_drop]; omega
  · exact Nat.le_refl _
 have hpa := fun w hE => parse_any ⟨(hashOff X.data.toList).toArray⟩ w (by simp [ByteArray.size]; omega) hE
 have hn := refV_num (hashOff X.data.toList)
 unfold numberF
 simp only [hn] at hpa
 have hbl := h.lt
 generalize numOf (hashOff X.data.toList) = q at *
 obtain ⟨f, bt, er⟩ := q
 simp only at hpa
 generalize (⟨(hashOff X.data.toList).toArray⟩ : ByteArray) = Y at *
 have hse := mk_bytes X
 simp only [tokV_mk, hse]
 have HTK := Lib.hid htk
 have HTR := Lib.hid htr
 have HPA := Lib.hid hpa
 have HL := Lib.hid hL
 clear htk htr hpa hn hpl hX hse hL h1 h2
 go_enter Tryz.func55, Tryz.ntmps55
 go_wp2_with fail
 obtain ⟨W, hW⟩ : ∃ W, W = w.alloc (.cells #[.int .i64 0, .string ⟨#[]⟩, .bool false, .int .u64 0, .int .i64 0] 41) := ⟨_, rfl⟩
 rw [← hW]
 have fW : Fr Nil w W := by rw [hW]; exact frA
 have r1 : Blk W w.heap.size #[.int .i64 0, .string ⟨#[]⟩, .bool false, .int .u64 0, .int .i64 0] 41 := by rw [hW]; exact blk0
 have g1 := h.fr fW
 clear hW h
 have c2 := g1.cell 2
 simp at c2
 have hbW := g1.lt
 go_upto_region 2 with fail
 go_cut [6] (fun s6 wx => ∃ g : Nat, s6 = .pointer (some ⟨g, 0, none⟩) ∧ Blk wx g #[.int .i64 3, .string X, .bool false, .int .u64 0, .int .i64 ln] 41 ∧ LexAt wx b s to_ ln ∧ Blk wx w.heap.size #[.int .i64 0, .string ⟨#[]⟩, .bool false, .int .u64 0, .int .i64 0] 41 ∧ w.heap.size < g ∧ Fr (fun k => k = b) w wx)
 case first =>
  go_region_with (first
   | (go_at_call 51; (with_reducible refine (HTK.out (W.alloc (.cells #[.int .i64 0, .string ⟨#[]⟩, .bool false, .int .u64 0, .int .i64 0] 41)).drew (g1.fr ((Fr.refl Nil W).alloc (.cells #[.int .i64 0, .string ⟨#[]⟩, .bool false, .int .u64 0, .int .i64 0] 41)).drew)).mono ?_); rintro e w2 ⟨rfl, g2, f2⟩; have f02 : Fr (fun k => k = b) w w2 := Fr.trans (by exact frA) f2 (fun _ _ q => q); have hW1 := r1.lt; have hW2 : W.heap.size ≤ w2.heap.size := Nat.le_trans (by simp) f2.size; have r2 := f2.blk (b := w.heap.size) (c := #[.int .i64 0, .string ⟨#[]⟩, .bool false, .int .u64 0, .int .i64 0]) (t := 41) (by exact blk1 r1) (fun q => by have q' : w.heap.size = b := q; omega); have q2 := g2.cell 2; simp at q2; have hb2 := g2.lt; have r3 := Fr.blk (w := (W.alloc (.cells #[.int .i64 0, .string ⟨#[]⟩, .bool false, .int .u64 0, .int .i64 0] 41)).drew) (w1 := w2) f2 (Blk.drew (Blk.new W #[.int .i64 0, .string ⟨#[]⟩, .bool false, .int .u64 0, .int .i64 0] 41)) (fun q => by have q' : W.heap.size = b := q; have := g1.lt; omega); have u0 := r3.cell 0; have u1 := r3.cell 1; have u2 := r3.cell 2; have u3 := r3.cell 3; have u4 := r3.cell 4; have v0 := r3.free 0; have v1 := r3.free 1; have v2 := r3.free 2; have v3 := r3.free 3; have v4 := r3.free 4; simp at u0 u1 u2 u3 u4; have hl3 := r3.lt)
   | (go_at_call 51; refine (HTK.out _ (g1.fr (by exact frA))).mono ?_; rintro e w2 ⟨rfl, g2, f2⟩; have f02 : Fr (fun k => k = b) w w2 := Fr.trans (by exact frA) f2 (fun _ _ q => q); have hW1 := r1.lt; have hW2 : W.heap.size ≤ w2.heap.size := Nat.le_trans (by simp) f2.size; have r2 := f2.blk (b := w.heap.size) (c := #[.int .i64 0, .string ⟨#[]⟩, .bool false, .int .u64 0, .int .i64 0]) (t := 41) (by exact blk1 r1) (fun q => by have q' : w.heap.size = b := q; omega); have q2 := g2.cell 2; simp at q2; have hb2 := g2.lt))
  all_goals
   go_wp2_with fail
   go_meet
   refine ⟨_, rfl, ?_, ?_, ?_, ?_, ?_⟩
   · first
      | (exact blk1 r3 <;> (simp; done))
      | ((unfold Blk; simp (disch := first | omega | (simp; done) | (simp; omega)) only [hp_drew, hp_drewN, hp_alloc, hp_other, hp_same, hp_new, upd_cells, Option.map_some, (r3).eq]); done)
      | (exact blk0 <;> (simp; done))
      | ((unfold Blk; simp (disch := first | omega | (simp; done) | (simp; omega)) only [hp_drew, hp_drewN, hp_alloc, hp_other, hp_same, hp_new, upd_cells, Option.map_some]); done)
   · unfold LexAt
     first
      | ((unfold Blk; simp (disch := first | omega | (simp; done) | (simp; omega)) only [hp_drew, hp_drewN, hp_alloc, hp_other, hp_same, hp_new, upd_cells, Option.map_some, (g2).eq]); done)
      | (exact blk1 g2 <;> (simp; done))
   · first
      | ((unfold Blk; simp (disch := first | omega | (simp; done) | (simp; omega)) only [hp_drew, hp_drewN, hp_alloc, hp_other, hp_same, hp_new, upd_cells, Option.map_some, (r2).eq]); done)
      | (exact blk1 r2 <;> (simp; done))
   · omega
   · exact frA
 case rest =>
  obtain ⟨g, rfl, k1, k2, k3, hg, f3⟩ := hcut
  obtain ⟨wx, rfl⟩ : ∃ V, V = wc := ⟨_, rfl⟩
  have hLx := HL.out.fr f3
  have hz := f3.size
  have hgl := k1.lt
  have hbg : b ≠ g := by omega
  have c0 := k1.cell 0
  have c1 := k1.cell 1
  have c2 := k1.cell 2
  have c3 := k1.cell 3
  have c4 := k1.cell 4
  have d2 := k1.free 2
  have d3 := k1.free 3
  simp at c0 c1 c2 c3 c4
  clear g1 r1 fW hbW
  go_wp2_with (first
   | (go_at_call 90; refine (HTR.out _).mono ?_; rintro e w4 ⟨rfl, rfl⟩)
   | fail)
  refine (HPA.out _ hLx.err).mono ?_
  rintro e w5 ⟨rfl, f5⟩
  have m1 := f5.blk k1 (by simp [Nil])
  have m2 := f5.blk k3 (by simp [Nil])
  have m3 := k2.fr f5
  have f35 : Fr (fun k => k = b) w w5 := f3.trans f5 (fun _ _ q => q.elim)
  have hz5 := f5.size
  clear c0 c1 c2 c3 c4 d2 d3 k1 k2 k3 f5 f3
  have c0 := m1.cell 0
  have c1 := m1.cell 1
  have c2 := m1.cell 2
  have c3 := m1.cell 3
  have c4 := m1.cell 4
  have d2 := m1.free 2
  have d3 := m1.free 3
  have q0 := m2.cell 0
  have q1 := m2.cell 1
  have q2 := m2.cell 2
  have q3 := m2.cell 3
  have q4 := m2.cell 4
  have y0 := m2.free 0
  have y1 := m2.free 1
  have y2 := m2.free 2
  have y3 := m2.free 3
  have y4 := m2.free 4
  simp at c0 c1 c2 c3 c4 q0 q1 q2 q3 q4
  have hg5 := m1.lt
  have hw5 := m2.lt
  have hn1 : g ≠ w.heap.size := by omega
  have hn2 : w.heap.size ≠ g := by omega
  go_wp2
  refine bodyPost_ret (v := .tuple #[.agg #[.int .i64 3, .string X, .bool f, .int .u64 (bt : Int), .int .i64 (ln : Int)], .int .i64 er]) (by simp [results, Tryz.results55, go_sem, *]) rfl ⟨rfl, ?_, ?_⟩
  · unfold LexAt
    exact blk1 m3
  · exact frA
theorem sizeSigns : (Tryz.prog.info? 132).map (·.size) = some 21 := by kernel_rfl
theorem signs_size : (strs signsL).size = 21 := by kernel_rfl
theorem signs_cells : (strs signsL).all (·.oneCell') = true := by kernel_rfl
theorem isArr : Tryz.prog.underlying 132 = some (.array 21 9) := by kernel_rfl
theorem signs_any (w : World) : Calls Tryz.prog 91 #[] w fun e w' => e = .returned (.agg (strs signsL)) ∧ Fr Nil w w' := by
 go_enter Tryz.func91, Tryz.ntmps91
 go_wp2_with (first
  | (refine wpList_build rfl 132 _ rfl (by kernel_rfl) ?_; generalize hX : Option.getD (Program.built _ _ _) _ = X; obtain rfl : X = strs signsL := (by rw [← hX]; kernel_rfl); clear hX)
  | (refine wpList_store_row rfl 132 (.tmp 0) (.tmp 1) rfl w.heap.size (strs signsL) rfl rfl 132 _ (heap_alloc_new w _) (sizeSigns.trans (congrArg some signs_size.symm)) ((by kernel_rfl : (21 : Nat) = 21).trans signs_size.symm) signs_cells ?_))
 have hg := heap_alloc_new w (.cells (Array.replicate 21 (.string ⟨#[]⟩)) 132)
 refine bodyPost_ret (v := .agg (strs signsL)) (results_cell_row (fn := Tryz.f91) (p := 0) (ty := 132) (by kernel_rfl) _ _ w.heap.size 132 (strs signsL) (0, 0) _ (by simp [Act.put]) (setRow_heap _ _ _ _ _ _ hg) isArr rfl (sizeSigns.trans (congrArg some signs_size.symm))) rfl ⟨rfl, ?_⟩
 have f1 : Fr Nil w (w.alloc (.cells (Array.replicate 21 (.string ⟨#[]⟩)) 132)) := (Fr.refl _ _).alloc _
 exact f1.grown (row := some w.heap.size) ⟨rfl, rfl, rfl, by simp, fun k _ hk => setRow_other _ _ _ _ (fun e => hk (by rw [e]))⟩ (fun k q hk => by cases q; omega)
theorem idx_sign (k : Nat) (hk : k < 21) : ∀ w, (Instr.index 132 (.agg (strs signsL)) (.int .i64 (k : Int))).run Tryz.prog w = .ok (.string ⟨(signsL[k]'(by rw [show signsL.length = 21 by decide]; exact hk)).toArray⟩) w := by
 have h : k = 0 ∨ k = 1 ∨ k = 2 ∨ k = 3 ∨ k = 4 ∨ k = 5 ∨ k = 6 ∨ k = 7 ∨ k = 8 ∨ k = 9 ∨ k = 10 ∨ k = 11 ∨ k = 12 ∨ k = 13 ∨ k = 14 ∨ k = 15 ∨ k = 16 ∨ k = 17 ∨ k = 18 ∨ k = 19 ∨ k = 20 := by omega
 rcases h with rfl | rfl | rfl | rfl | rfl | rfl | rfl | rfl | rfl | rfl | rfl | rfl | rfl | rfl | rfl | rfl | rfl | rfl | rfl | rfl | rfl
 all_goals
  intro w
  kernel_rfl
theorem punct_test : ∀ t ∈ signsL, t ≠ [45, 62] → Lib.contains [40, 41, 123, 125, 59, 61, 92] t = decide (t ∈ punctsL) := by decide
def TokRes (p : TokV × Int) (b : Nat) (s : ByteArray) (a ln : Nat) (e : Ending) (w' : World) : Prop :=
 ∃ (t : TokV) (a' : Nat), e = .returned (.tuple #[tokV t, .int .i64 p.2]) ∧ (p.2 = 0 → t = p.1 ∧ a' = a + p.1.text.length) ∧ a' ≤ s.size ∧ LexAt w' b s a' ln
set_option maxHeartbeats 20000000 in
theorem sign_l (b : Nat) (s : ByteArray) (a ln : Nat) (w : World) (h : LexAt w b s a ln) (hL : LibV w b) (hs : s.size ≤ 140737488355328) (ha : a < s.size) :
 Calls Tryz.prog 56 #[.pointer (some ⟨b, 0, none⟩)] w fun e w' => TokRes (signF (s.data.toList.drop a) ln) b s a ln e w' ∧ Fr (fun k => k = b) w w' := by
 have hlen : signsL.length = 21 := by decide
 have hsome := sign_some (l := s.data.toList.drop a) ln
 have hnone := sign_none (l := s.data.toList.drop a) ln
 have hidx := idx_sign
 obtain ⟨SG, hSG⟩ : ∃ SG, Value.agg (strs signsL) = SG := ⟨_, rfl⟩
 have hsg := signs_any
 rw [hSG] at hidx
 simp only [hSG] at hsg
 have HSG := Lib.hid hsg
 have HIDX := Lib.hid hidx
 have HS := Lib.hid hsome
 have HN := Lib.hid hnone
 have HL := Lib.hid hL
 have hbl := h.lt
 clear hSG hsg hidx hsome hnone hL
 go_enter Tryz.func56, Tryz.ntmps56
 go_wp2_with fail
 refine (HSG.out _).mono ?_
 rintro e w1 ⟨rfl, f1⟩
 have fW : Fr Nil w w1 := Fr.trans (by exact frA) f1 (fun _ _ q => q)
 have r1 := f1.blk (b := w.heap.size) (c := #[.int .i64 0, .string ⟨#[]⟩, .bool false, .int .u64 0, .int .i64 0]) (t := 41) (by exact blk0) (by simp [Nil])
 have g1 := h.fr fW
 clear f1 h
 go_wp2_with fail
 go_loopw [8] (fun i wr => ∃ k : Nat, k ≤ 21 ∧ i = .int .i64 k ∧ Hid (∀ j, (h : j < signsL.length) → j < k → signsL[j].isPrefixOf (s.data.toList.drop a) = false) ∧ LexAt wr b s a ln ∧ Blk wr w.heap.size #[.int .i64 0, .string ⟨#[]⟩, .bool false, .int .u64 0, .int .i64 0] 41 ∧ Fr Nil w wr) (fun i _ => 21 - (intOf i).toNat)
 case atStart => exact ⟨0, by omega, rfl, Lib.hid (fun j _ hj => by omega), g1, r1, fW⟩
 case round =>
  obtain ⟨k, hk, rfl, HA, g2, r2, f2⟩ := hrel
  clear g1 r1 fW
  by_cases hlt : k < 21
  · have hkl : k < signsL.length := by omega
    have hix := HIDX.out k hlt
    obtain ⟨t, ht⟩ : ∃ t, signsL[k] = t := ⟨_, rfl⟩
    have htm : t ∈ signsL := by rw [← ht]; exact List.getElem_mem hkl
    have ht10 : 0 < t.length ∧ t.length ≤ 3 := by
     have key : ∀ c ∈ signsL, 0 < c.length ∧ c.length ≤ 3 := by decide
     exact key t htm
    rw [ht] at hix
    obtain ⟨T, hT⟩ : ∃ T : ByteArray, (⟨t.toArray⟩ : ByteArray) = T := ⟨_, rfl⟩
    have hTl : T.data.toList = t := by rw [← hT]
    have hTs : T.size = t.length := by rw [← hTl, size_of]
    rw [hT] at hix
    have hpre := fun w => pre_any (s.extract a s.size) T w
    rw [ext_tail, hTl] at hpre
    have i0 : (0 : Int) ≤ (k : Int) := by omega
    have i1 : (k : Int) < 21 := by omega
    have j0 : (0 : Int) ≤ (a : Int) := by omega
    have j1 : (a : Int) ≤ (s.size : Int) := by omega
    have c0 := g2.cell 0
    have c1 := g2.cell 1
    have c2 := g2.cell 2
    simp at c0 c1 c2
    have HT := Lib.hid (And.intro ht (And.intro htm (And.intro hTl hTs)))
    by_cases hp : t.isPrefixOf (s.data.toList.drop a) = true
    · have hr : signF (s.data.toList.drop a) ln = (⟨if t ∈ punctsL then 6 else 4, t, false, 0, ln⟩, 0) := by
       have := HS.out k hkl (by rw [ht]; exact hp) HA.out
       rw [ht] at this
       exact this
      rw [hp] at hpre
      have hpx := List.isPrefixOf_iff_prefix.1 hp
      have hpl := hpx.length_le
      rw [List.length_drop, size_of] at hpl
      have hto : a + T.size ≤ s.size := by omega
      obtain ⟨X, hX⟩ : ∃ X, s.extract a (a + T.size) = X := ⟨_, rfl⟩
      have hXt : X.data.toList = t := by
       rw [← hX, extract_from, show a + T.size - a = t.length by omega]
       exact (List.prefix_iff_eq_take.1 hpx).symm
      have htk : ∀ w, LexAt w b s a ln → Calls Tryz.prog 51 #[.pointer (some ⟨b, 0, none⟩), .int .i64 ((a : Int) + (T.size : Int))] w fun e w' => e = .returned (.string X) ∧ LexAt w' b s (a + t.length) ln ∧ Fr (fun k => k = b) w w' := fun w h => by
       have := take_l b s a ln w h (a + T.size) (by omega) hto
       rw [hX, show ((a + T.size : Nat) : Int) = (a : Int) + (T.size : Int) by omega] at this
       rwa [← hTs]
      have hcon := fun w m hm => Tryz.strings_ContainsB ⟨#[40, 41, 123, 125, 59, 61, 92]⟩ T m w (by decide) hm
      simp only [hTl] at hcon
      have hpt := punct_test t htm
      have j2 : (a : Int) + (T.size : Int) ≤ (s.size : Int) := by omega
      have hb3 : T.size ≤ 3 := by omega
      have HP := Lib.hid hpre
      have HR := Lib.hid hr
      have HTK := Lib.hid htk
      have HCON := Lib.hid hcon
      have HPT := Lib.hid hpt
      have HX2 : Hid (a + t.length ≤ s.size) := Lib.hid (by omega)
      clear hpre hp hr hpx hpl hto hX htk hcon hpt ht htm hT hTs
      go_wp2
      go_quiet ((go_at_call 47; exact Calls.quiet_of_same (HP.out _)))
      obtain ⟨V, hV⟩ : ∃ V, V = wr.drewN nq := ⟨_, rfl⟩
      rw [← hV]
      have g3 : LexAt V b s a ln := by rw [hV]; exact Blk.drewN g2 _
      have r3 := Blk.drewN r2 nq
      have f3 := f2.drewN nq
      rw [← hV] at r3 f3
      clear hV g2 r2 f2 c0 c1 c2
      have c1 := g3.cell 1
      have c2 := g3.cell 2
      simp at c1 c2
      have hbV := g3.lt
      go_upto_region 6 with fail
      go_cut [6] (fun s6 wx => ∃ g : Nat, s6 = .pointer (some ⟨g, 0, none⟩) ∧ Blk wx g #[.int .i64 4, .string X, .bool false, .int .u64 0, .int .i64 ln] 41 ∧ LexAt wx b s (a + t.length) ln ∧ Blk wx w.heap.size #[.int .i64 0, .string ⟨#[]⟩, .bool false, .int .u64 0, .int .i64 0] 41 ∧ w.heap.size < g ∧ Fr (fun k => k = b) w wx)
      case first =>
       clear HP HR HCON HPT HA HIDX HSG HS HN HX2 HT hXt i0 i1 HL hTl ht10 hix
       have hwr : IntKind.i64.wrap ((a : Int) + (T.size : Int)) = (a : Int) + (T.size : Int) := by rw [IntKind.wrap_i64]; omega
       go_region_with (first
        | (go_at_call 51; (with_reducible refine (HTK.out (V.alloc (.cells #[.int .i64 0, .string ⟨#[]⟩, .bool false, .int .u64 0, .int .i64 0] 41)).drew (g3.fr ((Fr.refl Nil V).alloc (.cells #[.int .i64 0, .string ⟨#[]⟩, .bool false, .int .u64 0, .int .i64 0] 41)).drew)).mono ?_); rintro e w2 ⟨rfl, g4, f4⟩; have f04 : Fr (fun k => k = b) w w2 := Fr.trans (by exact frA) f4 (fun _ _ q => q); have hW1 := r3.lt; have hW2 : V.heap.size ≤ w2.heap.size := Nat.le_trans (by simp) f4.size; have r4 := f4.blk (b := w.heap.size) (c := #[.int .i64 0, .string ⟨#[]⟩, .bool false, .int .u64 0, .int .i64 0]) (t := 41) (by exact blk1 r3) (fun q => by have q' : w.heap.size = b := q; omega); have q2 := g4.cell 2; simp at q2; have hb2 := g4.lt; have r5 := Fr.blk (w := (V.alloc (.cells #[.int .i64 0, .string ⟨#[]⟩, .bool false, .int .u64 0, .int .i64 0] 41)).drew) (w1 := w2) f4 (Blk.drew (Blk.new V #[.int .i64 0, .string ⟨#[]⟩, .bool false, .int .u64 0, .int .i64 0] 41)) (fun q => by have q' : V.heap.size = b := q; omega); have u0 := r5.cell 0; have u1 := r5.cell 1; have u2 := r5.cell 2; have u3 := r5.cell 3; have u4 := r5.cell 4; have v0 := r5.free 0; have v1 := r5.free 1; have v2 := r5.free 2; have v3 := r5.free 3; have v4 := r5.free 4; simp at u0 u1 u2 u3 u4; have hl3 := r5.lt)
        | (go_at_call 51; refine (HTK.out _ (g3.fr (by exact frA))).mono ?_; rintro e w2 ⟨rfl, g4, f4⟩; have f04 : Fr (fun k => k = b) w w2 := Fr.trans (by exact frA) f4 (fun _ _ q => q); have hW1 := r3.lt; have hW2 : V.heap.size ≤ w2.heap.size := Nat.le_trans (by simp) f4.size; have r4 := f4.blk (b := w.heap.size) (c := #[.int .i64 0, .string ⟨#[]⟩, .bool false, .int .u64 0, .int .i64 0]) (t := 41) (by exact blk1 r3) (fun q => by have q' : w.heap.size = b := q; omega); have q2 := g4.cell 2; simp at q2; have hb2 := g4.lt))
       all_goals
        go_wp2_with fail
        go_meet
        refine ⟨_, rfl, ?_, ?_, ?_, ?_, ?_⟩
        · first
           | (exact blk1 r5 <;> (simp; done))
           | ((unfold Blk; simp (disch := first | omega | (simp; done) | (simp; omega)) only [hp_drew, hp_drewN, hp_alloc, hp_other, hp_same, hp_new, upd_cells, Option.map_some, (r5).eq]); done)
           | (exact blk0 <;> (simp; done))
           | ((unfold Blk; simp (disch := first | omega | (simp; done) | (simp; omega)) only [hp_drew, hp_drewN, hp_alloc, hp_other, hp_same, hp_new, upd_cells, Option.map_some]); done)
        · unfold LexAt
          first
           | ((unfold Blk; simp (disch := first | omega | (simp; done) | (simp; omega)) only [hp_drew, hp_drewN, hp_alloc, hp_other, hp_same, hp_new, upd_cells, Option.map_some, (g4).eq]); done)
           | (exact blk1 g4 <;> (simp; done))
        · first
           | ((unfold Blk; simp (disch := first | omega | (simp; done) | (simp; omega)) only [hp_drew, hp_drewN, hp_alloc, hp_other, hp_same, hp_new, upd_cells, Option.map_some, (r4).eq]); done)
           | (exact blk1 r4 <;> (simp; done))
        · omega
        · exact frA
      case rest =>
       obtain ⟨g, rfl, k1, k2, k3, hg, f5⟩ := hcut
       obtain ⟨wx, rfl⟩ : ∃ V, V = wc := ⟨_, rfl⟩
       have HX := Lib.hid (And.intro hXt HR.out)
       have hlib := (HL.out.fr f5)
       have c0 := k1.cell 0
       have c1 := k1.cell 1
       have c2 := k1.cell 2
       have c3 := k1.cell 3
       have c4 := k1.cell 4
       have d0 := k1.free 0
       have d1 := k1.free 1
       have d2 := k1.free 2
       have d3 := k1.free 3
       have d4 := k1.free 4
       have q0 := k3.cell 0
       have q1 := k3.cell 1
       have q2 := k3.cell 2
       have q3 := k3.cell 3
       have q4 := k3.cell 4
       have y0 := k3.free 0
       have y1 := k3.free 1
       have y2 := k3.free 2
       have y3 := k3.free 3
       have y4 := k3.free 4
       simp at c0 c1 c2 c3 c4 q0 q1 q2 q3 q4
       have hg5 := k1.lt
       have hw5 := k3.lt
       have hn1 : g ≠ w.heap.size := by omega
       have hn2 : w.heap.size ≠ g := by omega
       have hbg : b ≠ g := by omega
       have hbw : b ≠ w.heap.size := by omega
       clear r3 g3 f3 hbV
       by_cases he : t = [45, 62]
       · have hT0 : (T.toList == [45, 62]) = true := by rw [Lib.toList_data, HT.out.2.2.1, he]; rfl
         have hk : (if t ∈ punctsL then 6 else 4) = (6 : Int) := by rw [he]; rfl
         rw [hk] at HX
         go_wp2
         refine bodyPost_ret (v := .tuple #[.agg #[.int .i64 6, .string X, .bool false, .int .u64 0, .int .i64 ln], .int .i64 0]) (by simp [results, Tryz.results56, go_sem, *]) rfl ⟨?_, by exact frA⟩
         rw [HX.out.2]
         refine ⟨⟨6, t, false, 0, ln⟩, a + t.length, ?_, fun _ => ⟨by first | simp_all | skip, rfl⟩, HX2.out, ?_⟩
         · rw [← HX.out.1]; rfl
         · unfold LexAt
           exact blk1 k2
       · have hT0 : (T.toList == [45, 62]) = false := by rw [Lib.toList_data, HT.out.2.2.1]; simpa using he
         have hpt := HPT.out he
         obtain ⟨m, hm⟩ := hlib.len
         have hco := HCON.out wx m hm
         rw [hpt] at hco
         by_cases hq : t ∈ punctsL
         · rw [show decide (t ∈ punctsL) = true from decide_eq_true hq] at hco
           rw [if_pos hq] at HX
           have HC := Lib.hid hco
           clear hco hpt
           go_wp2_with (first
            | (go_at_call 92; refine (HC.out).mono ?_; rintro e w4 ⟨rfl, rfl⟩)
            | fail)
           refine bodyPost_ret (v := .tuple #[.agg #[.int .i64 6, .string X, .bool false, .int .u64 0, .int .i64 ln], .int .i64 0]) (by simp [results, Tryz.results56, go_sem, *]) rfl ⟨?_, by exact frA⟩
           rw [HX.out.2]
           refine ⟨⟨6, t, false, 0, ln⟩, a + t.length, ?_, fun _ => ⟨by first | simp_all | skip, rfl⟩, HX2.out, ?_⟩
           · rw [← HX.out.1]; rfl
           · unfold LexAt
             exact blk1 k2
         · rw [show decide (t ∈ punctsL) = false from decide_eq_false hq] at hco
           rw [if_neg hq] at HX
           have HC := Lib.hid hco
           clear hco hpt
           go_wp2_with (first
            | (go_at_call 92; refine (HC.out).mono ?_; rintro e w4 ⟨rfl, rfl⟩)
            | fail)
           refine bodyPost_ret (v := .tuple #[.agg #[.int .i64 4, .string X, .bool false, .int .u64 0, .int .i64 ln], .int .i64 0]) (by simp [results, Tryz.results56, go_sem, *]) rfl ⟨?_, by exact frA⟩
           rw [HX.out.2]
           refine ⟨⟨4, t, false, 0, ln⟩, a + t.length, ?_, fun _ => ⟨by first | simp_all | skip, rfl⟩, HX2.out, ?_⟩
           · rw [← HX.out.1]; rfl
           · unfold LexAt
             exact blk1 k2
    · rw [Bool.not_eq_true] at hp
      rw [hp] at hpre
      have HP := Lib.hid hpre
      have HA2 : Hid (∀ j, (h : j < signsL.length) → j < k + 1 → signsL[j].isPrefixOf (s.data.toList.drop a) = false) := Lib.hid (fun j h hj => by
       rcases Nat.lt_or_ge j k with q | q
       · exact HA.out j h q
       · obtain rfl : j = k := by omega
         rw [ht]; exact hp)
      clear ht htm hT hTl hTs hpre hp
      go_wp2
      go_quiet ((go_at_call 47; exact Calls.quiet_of_same (HP.out _)))
      go_wp2
      go_roundw
      case rel => exact ⟨k + 1, by omega, by go_num, HA2, Blk.drewN g2 _, Blk.drewN r2 _, f2.drewN _⟩
      case measure => simp [intOf]; omega
  · obtain rfl : k = 21 := by omega
    have hr := HN.out (fun c hc => by
     obtain ⟨j, hj, rfl⟩ := List.mem_iff_getElem.1 hc
     exact HA.out j hj (by omega))
    have HR := Lib.hid hr
    have q0 := r2.cell 0
    have q1 := r2.cell 1
    have q2 := r2.cell 2
    have q3 := r2.cell 3
    have q4 := r2.cell 4
    have y0 := r2.free 0
    have y1 := r2.free 1
    have y2 := r2.free 2
    have y3 := r2.free 3
    have y4 := r2.free 4
    simp at q0 q1 q2 q3 q4
    have hw5 := r2.lt
    clear hr
    go_wp2
    refine bodyPost_ret (v := .tuple #[.agg #[.int .i64 0, .string ⟨#[]⟩, .bool false, .int .u64 0, .int .i64 0], .int .i64 3]) (by simp [results, Tryz.results56, go_sem, *]) rfl ⟨?_, by exact frA⟩
    rw [HR.out]
    refine ⟨none_ 0, a, rfl, fun q => absurd (show (3 : Int) = 0 from q) (by decide), by omega, ?_⟩
    unfold LexAt
    exact blk1 g2
end Go.Proofs.YtlnmicddobgppaaGreatDoor
