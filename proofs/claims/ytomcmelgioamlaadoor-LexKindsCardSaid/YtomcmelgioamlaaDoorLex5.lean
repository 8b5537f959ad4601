/-
  Contracts of package lex: a sign. Conditions: sizes that memory bears, and the library's variables.
-/
import Derived.Test.YtomcmelgioamlaaDoorLex4
import Derived.Test.YtomcmelgioamlaaDoorLexS
import Derived.Laws.Rows
import Derived.Laws.Tables
namespace Go.Proofs.YtomcmelgioamlaaDoor
set_option linter.unusedSimpArgs false
set_option linter.unusedVariables false
open Go.RowKit

theorem sizeSigns : (Tryd.prog.info? 69).map (·.size) = some 21 := by kernel_rfl
theorem signs_lit : strs signsL = #[Value.string ⟨#[61, 61, 46]⟩, Value.string ⟨#[45, 62]⟩, Value.string ⟨#[61, 61]⟩, Value.string ⟨#[43, 46]⟩, Value.string ⟨#[45, 46]⟩, Value.string ⟨#[42, 46]⟩, Value.string ⟨#[47, 46]⟩, Value.string ⟨#[60, 46]⟩, Value.string ⟨#[43]⟩, Value.string ⟨#[45]⟩, Value.string ⟨#[42]⟩, Value.string ⟨#[47]⟩, Value.string ⟨#[37]⟩, Value.string ⟨#[60]⟩, Value.string ⟨#[40]⟩, Value.string ⟨#[41]⟩, Value.string ⟨#[123]⟩, Value.string ⟨#[125]⟩, Value.string ⟨#[59]⟩, Value.string ⟨#[61]⟩, Value.string ⟨#[92]⟩] := by kernel_rfl
theorem signs_size : (strs signsL).size = 21 := by kernel_rfl
theorem signs_cells : (strs signsL).all (·.oneCell') = true := by kernel_rfl
theorem isArr : Tryd.prog.underlying 69 = some (.array 21 9) := by kernel_rfl
set_option maxRecDepth 100000 in
theorem signs_any (w : World) : Calls Tryd.prog 45 #[] w fun e w' => e = .returned (.agg (strs signsL)) ∧ Fr Nil w w' := by
  go_enter Tryd.func45, Tryd.ntmps45
  go_wp2_with (first
    | (refine wpList_build rfl 69 _ rfl (by kernel_rfl) ?_; generalize hX : Option.getD (Program.built _ _ _) _ = X; obtain rfl : X = strs signsL := (by rw [← hX]; kernel_rfl); clear hX)
    | (refine wpList_store_row rfl 69 (.tmp 0) (.tmp 1) rfl w.heap.size (strs signsL) rfl rfl 69 _ (heap_alloc_new w _) (sizeSigns.trans (congrArg some signs_size.symm)) ((by kernel_rfl : (21 : Nat) = 21).trans signs_size.symm) signs_cells ?_))
  have hg := heap_alloc_new w (.cells (Array.replicate 21 (.string ⟨#[]⟩)) 69)
  refine bodyPost_ret (v := .agg (strs signsL)) (results_cell_row (fn := Tryd.f45) (p := 0) (ty := 69) (by kernel_rfl) _ _ w.heap.size 69 (strs signsL) (0, 0) _ (by simp [Act.put]) (setRow_heap _ _ _ _ _ _ hg) isArr rfl (sizeSigns.trans (congrArg some signs_size.symm))) rfl ⟨rfl, ?_⟩
  have f1 : Fr Nil w (w.alloc (.cells (Array.replicate 21 (.string ⟨#[]⟩)) 69)) := (Fr.refl _ _).alloc _
  exact f1.grown (row := some w.heap.size) ⟨rfl, rfl, rfl, by simp, fun k _ hk => setRow_other _ _ _ _ (fun e => hk (by rw [e]))⟩ (fun k q hk => by cases q; omega)
theorem idx_sign (k : Nat) (hk : k < 21) : ∀ w, (Instr.index 69 (.agg (strs signsL)) (.int .i64 (k : Int))).run Tryd.prog w = .ok (.string ⟨(signsL[k]'(by rw [show signsL.length = 21 by decide]; exact hk)).toArray⟩) w := by
  have h : k = 0 ∨ k = 1 ∨ k = 2 ∨ k = 3 ∨ k = 4 ∨ k = 5 ∨ k = 6 ∨ k = 7 ∨ k = 8 ∨ k = 9 ∨ k = 10 ∨ k = 11 ∨ k = 12 ∨ k = 13 ∨ k = 14 ∨ k = 15 ∨ k = 16 ∨ k = 17 ∨ k = 18 ∨ k = 19 ∨ k = 20 := by omega
  rcases h with rfl | rfl | rfl | rfl | rfl | rfl | rfl | rfl | rfl | rfl | rfl | rfl | rfl | rfl | rfl | rfl | rfl | rfl | rfl | rfl | rfl
  all_goals
    intro w
    kernel_rfl
theorem punct_test : ∀ t ∈ signsL, t ≠ [45, 62] → Lib.contains [40, 41, 123, 125, 59, 61, 92] t = decide (t ∈ punctsL) := by decide
/-- What a token's call tells: the token, if there is no error; where the lexer stands. -/
def TokRes (p : TokV × Int) (b : Nat) (s : ByteArray) (a ln : Nat) (e : Ending) (w' : World) : Prop :=
  ∃ (t : TokV) (a' : Nat), e = .returned (.tuple #[tokV t, .int .i64 p.2]) ∧ (p.2 = 0 → t = p.1 ∧ a' = a + p.1.text.length) ∧ a' ≤ s.size ∧ LexAt w' b s a' ln
set_option maxRecDepth 100000 in
set_option maxHeartbeats 20000000 in
theorem sign_l (b : Nat) (s : ByteArray) (a ln : Nat) (w : World) (h : LexAt w b s a ln) (hL : LibV w b) (hs : s.size ≤ 100000) (ha : a < s.size) :
    Calls Tryd.prog 32 #[.pointer (some ⟨b, 0, none⟩)] w fun e w' => TokRes (signF (s.data.toList.drop a) ln) b s a ln e w' ∧ Fr (fun k => k = b) w w' := by
  have hlen : signsL.length = 21 := by decide
  have hsome := sign_some (l := s.data.toList.drop a) ln
  have hnone := sign_none (l := s.data.toList.drop a) ln
  have hidx := idx_sign
  obtain ⟨SG, hSG⟩ : ∃ SG, Value.agg (strs signsL) = SG := ⟨_, rfl⟩
  have hsg := signs_any
  rw [hSG] at hidx
  simp only [hSG] at hsg
  have HSG := Lib.hid hsg
  have HIDX := Lib.hid hidx
  have HS := Lib.hid hsome
  have HN := Lib.hid hnone
  have HL := Lib.hid hL
  have hbl := h.lt
  clear hSG hsg hidx hsome hnone hL
  go_enter Tryd.func32, Tryd.ntmps32
  go_wp2_with fail
  refine (HSG.out _).mono ?_
  rintro e w1 ⟨rfl, f1⟩
  have fW : Fr Nil w w1 := Fr.trans (by (repeat (first | (with_reducible exact Fr.refl _ _) | (with_reducible assumption) | (with_reducible exact Fr.of_nil (by assumption)) | (with_reducible refine Fr.drew ?_) | (with_reducible refine Fr.drewN ?_ _) | (with_reducible refine Fr.alloc ?_ _) | (with_reducible refine Fr.set ?_ _ _ (by first | (intros; omega) | (simp; done) | (simp; omega))) | (with_reducible refine Fr.via ?_ (by assumption)) | (with_reducible refine Fr.comp ?_ (by assumption))))) f1 (fun _ _ q => q)
  have r1 := f1.blk (b := w.heap.size) (c := #[.int .i64 0, .string ⟨#[]⟩, .bool false, .int .u64 0, .int .i64 0]) (t := 35) (by (unfold Blk; simp (disch := first | omega | (simp; done) | (simp; omega)) only [hp_drew, hp_drewN, hp_alloc, hp_other, hp_same, hp_new, upd_cells, Option.map_some])) (by simp [Nil])
  have g1 := h.fr fW
  clear f1 h
  go_wp2_with fail
  go_loopw [8] (fun i wr => ∃ k : Nat, k ≤ 21 ∧ i = .int .i64 k ∧ Hid (∀ j, (h : j < signsL.length) → j < k → signsL[j].isPrefixOf (s.data.toList.drop a) = false) ∧ LexAt wr b s a ln ∧ Blk wr w.heap.size #[.int .i64 0, .string ⟨#[]⟩, .bool false, .int .u64 0, .int .i64 0] 35 ∧ Fr Nil w wr) (fun i _ => 21 - (intOf i).toNat)
  case atStart => exact ⟨0, by omega, rfl, Lib.hid (fun j _ hj => by omega), g1, r1, fW⟩
  case round =>
    obtain ⟨k, hk, rfl, HA, g2, r2, f2⟩ := hrel
    clear g1 r1 fW
    by_cases hlt : k < 21
    · have hkl : k < signsL.length := by omega
      have hix := HIDX.out k hlt
      obtain ⟨t, ht⟩ : ∃ t, signsL[k] = t := ⟨_, rfl⟩
      have htm : t ∈ signsL := by rw [← ht]; exact List.getElem_mem hkl
      have ht10 : 0 < t.length ∧ t.length ≤ 3 := by
        have key : ∀ c ∈ signsL, 0 < c.length ∧ c.length ≤ 3 := by decide
        exact key t htm
      rw [ht] at hix
      obtain ⟨T, hT⟩ : ∃ T : ByteArray, (⟨t.toArray⟩ : ByteArray) = T := ⟨_, rfl⟩
      have hTl : T.data.toList = t := by rw [← hT]
      have hTs : T.size = t.length := by rw [← hTl, size_of]
      rw [hT] at hix
      have hpre := fun w => pre_any (s.extract a s.size) T w
      rw [ext_tail, hTl] at hpre
      have i0 : (0 : Int) ≤ (k : Int) := by omega
      have i1 : (k : Int) < 21 := by omega
      have j0 : (0 : Int) ≤ (a : Int) := by omega
      have j1 : (a : Int) ≤ (s.size : Int) := by omega
      have c0 := g2.cell 0
      have c1 := g2.cell 1
      have c2 := g2.cell 2
      simp at c0 c1 c2
      have HT := Lib.hid (And.intro ht (And.intro htm (And.intro hTl hTs)))
      by_cases hp : t.isPrefixOf (s.data.toList.drop a) = true
      · have hr : signF (s.data.toList.drop a) ln = (⟨if t ∈ punctsL then 6 else 4, t, false, 0, ln⟩, 0) := by
          have := HS.out k hkl (by rw [ht]; exact hp) HA.out
          rw [ht] at this
          exact this
        rw [hp] at hpre
        have hpx := List.isPrefixOf_iff_prefix.1 hp
        have hpl := hpx.length_le
        rw [List.length_drop, size_of] at hpl
        have hto : a + T.size ≤ s.size := by omega
        obtain ⟨X, hX⟩ : ∃ X, s.extract a (a + T.size) = X := ⟨_, rfl⟩
        have hXt : X.data.toList = t := by
          rw [← hX, extract_from, show a + T.size - a = t.length by omega]
          exact (List.prefix_iff_eq_take.1 hpx).symm
        have htk : ∀ w, LexAt w b s a ln → Calls Tryd.prog 27 #[.pointer (some ⟨b, 0, none⟩), .int .i64 ((a : Int) + (T.size : Int))] w fun e w' => e = .returned (.string X) ∧ LexAt w' b s (a + t.length) ln ∧ Fr (fun k => k = b) w w' := fun w h => by
          have := take_l b s a ln w h (a + T.size) (by omega) hto
          rw [hX, show ((a + T.size : Nat) : Int) = (a : Int) + (T.size : Int) by omega] at this
          rwa [← hTs]
        have hcon := fun w m hm => Tryd.strings_ContainsB ⟨#[40, 41, 123, 125, 59, 61, 92]⟩ T m w (by decide) hm
        simp only [hTl] at hcon
        have hpt := punct_test t htm
        have j2 : (a : Int) + (T.size : Int) ≤ (s.size : Int) := by omega
        have hb3 : T.size ≤ 3 := by omega
        have HP := Lib.hid hpre
        have HR := Lib.hid hr
        have HTK := Lib.hid htk
        have HCON := Lib.hid hcon
        have HPT := Lib.hid hpt
        have HX2 : Hid (a + t.length ≤ s.size) := Lib.hid (by omega)
        clear hpre hp hr hpx hpl hto hX htk hcon hpt ht htm hT hTs
        go_wp2
        go_quiet ((go_at_call 23; exact Calls.quiet_of_same (HP.out _)))
        obtain ⟨V, hV⟩ : ∃ V, V = wr.drewN nq := ⟨_, rfl⟩
        rw [← hV]
        have g3 : LexAt V b s a ln := by rw [hV]; exact Blk.drewN g2 _
        have r3 := Blk.drewN r2 nq
        have f3 := f2.drewN nq
        rw [← hV] at r3 f3
        clear hV g2 r2 f2 c0 c1 c2
        have c1 := g3.cell 1
        have c2 := g3.cell 2
        simp at c1 c2
        have hbV := g3.lt
        go_upto_region 6 with fail
        go_cut [6] (fun s6 wx => ∃ g : Nat, s6 = .pointer (some ⟨g, 0, none⟩) ∧ Blk wx g #[.int .i64 4, .string X, .bool false, .int .u64 0, .int .i64 ln] 35 ∧ LexAt wx b s (a + t.length) ln ∧ Blk wx w.heap.size #[.int .i64 0, .string ⟨#[]⟩, .bool false, .int .u64 0, .int .i64 0] 35 ∧ w.heap.size < g ∧ Fr (fun k => k = b) w wx)
        case first =>
          clear HP HR HCON HPT HA HIDX HSG HS HN HX2 HT hXt i0 i1 HL hTl ht10 hix
          have hwr : IntKind.i64.wrap ((a : Int) + (T.size : Int)) = (a : Int) + (T.size : Int) := by rw [IntKind.wrap_i64]; omega
          go_region_with (first
            | (go_at_call 27; (with_reducible refine (HTK.out (V.alloc (.cells #[.int .i64 0, .string ⟨#[]⟩, .bool false, .int .u64 0, .int .i64 0] 35)).drew (g3.fr ((Fr.refl Nil V).alloc (.cells #[.int .i64 0, .string ⟨#[]⟩, .bool false, .int .u64 0, .int .i64 0] 35)).drew)).mono ?_); rintro e w2 ⟨rfl, g4, f4⟩; have f04 : Fr (fun k => k = b) w w2 := Fr.trans (by (repeat (first | (with_reducible exact Fr.refl _ _) | (with_reducible assumption) | (with_reducible exact Fr.of_nil (by assumption)) | (with_reducible refine Fr.drew ?_) | (with_reducible refine Fr.drewN ?_ _) | (with_reducible refine Fr.alloc ?_ _) | (with_reducible refine Fr.set ?_ _ _ (by first | (intros; omega) | (simp; done) | (simp; omega))) | (with_reducible refine Fr.via ?_ (by assumption)) | (with_reducible refine Fr.comp ?_ (by assumption))))) f4 (fun _ _ q => q); have hW1 := r3.lt; have hW2 : V.heap.size ≤ w2.heap.size := Nat.le_trans (by simp) f4.size; have r4 := f4.blk (b := w.heap.size) (c := #[.int .i64 0, .string ⟨#[]⟩, .bool false, .int .u64 0, .int .i64 0]) (t := 35) (by (unfold Blk; simp (disch := first | omega | (simp; done) | (simp; omega)) only [hp_drew, hp_drewN, hp_alloc, hp_other, hp_same, hp_new, upd_cells, Option.map_some, (r3).eq])) (fun q => by have q' : w.heap.size = b := q; omega); have q2 := g4.cell 2; simp at q2; have hb2 := g4.lt; have r5 := Fr.blk (w := (V.alloc (.cells #[.int .i64 0, .string ⟨#[]⟩, .bool false, .int .u64 0, .int .i64 0] 35)).drew) (w1 := w2) f4 (Blk.drew (Blk.new V #[.int .i64 0, .string ⟨#[]⟩, .bool false, .int .u64 0, .int .i64 0] 35)) (fun q => by have q' : V.heap.size = b := q; omega); have u0 := r5.cell 0; have u1 := r5.cell 1; have u2 := r5.cell 2; have u3 := r5.cell 3; have u4 := r5.cell 4; have v0 := r5.free 0; have v1 := r5.free 1; have v2 := r5.free 2; have v3 := r5.free 3; have v4 := r5.free 4; simp at u0 u1 u2 u3 u4; have hl3 := r5.lt)
            | (go_at_call 27; refine (HTK.out _ (g3.fr (by (repeat (first | (with_reducible exact Fr.refl _ _) | (with_reducible assumption) | (with_reducible exact Fr.of_nil (by assumption)) | (with_reducible refine Fr.drew ?_) | (with_reducible refine Fr.drewN ?_ _) | (with_reducible refine Fr.alloc ?_ _) | (with_reducible refine Fr.set ?_ _ _ (by first | (intros; omega) | (simp; done) | (simp; omega))) | (with_reducible refine Fr.via ?_ (by assumption)) | (with_reducible refine Fr.comp ?_ (by assumption))))))).mono ?_; rintro e w2 ⟨rfl, g4, f4⟩; have f04 : Fr (fun k => k = b) w w2 := Fr.trans (by (repeat (first | (with_reducible exact Fr.refl _ _) | (with_reducible assumption) | (with_reducible exact Fr.of_nil (by assumption)) | (with_reducible refine Fr.drew ?_) | (with_reducible refine Fr.drewN ?_ _) | (with_reducible refine Fr.alloc ?_ _) | (with_reducible refine Fr.set ?_ _ _ (by first | (intros; omega) | (simp; done) | (simp; omega))) | (with_reducible refine Fr.via ?_ (by assumption)) | (with_reducible refine Fr.comp ?_ (by assumption))))) f4 (fun _ _ q => q); have hW1 := r3.lt; have hW2 : V.heap.size ≤ w2.heap.size := Nat.le_trans (by simp) f4.size; have r4 := f4.blk (b := w.heap.size) (c := #[.int .i64 0, .string ⟨#[]⟩, .bool false, .int .u64 0, .int .i64 0]) (t := 35) (by (unfold Blk; simp (disch := first | omega | (simp; done) | (simp; omega)) only [hp_drew, hp_drewN, hp_alloc, hp_other, hp_same, hp_new, upd_cells, Option.map_some, (r3).eq])) (fun q => by have q' : w.heap.size = b := q; omega); have q2 := g4.cell 2; simp at q2; have hb2 := g4.lt))
          all_goals
            go_wp2_with fail
            go_meet
            refine ⟨_, rfl, ?_, ?_, ?_, ?_, ?_⟩
            · first
                | ((unfold Blk; simp (disch := first | omega | (simp; done) | (simp; omega)) only [hp_drew, hp_drewN, hp_alloc, hp_other, hp_same, hp_new, upd_cells, Option.map_some, (r5).eq]) <;> (simp; done))
                | ((unfold Blk; simp (disch := first | omega | (simp; done) | (simp; omega)) only [hp_drew, hp_drewN, hp_alloc, hp_other, hp_same, hp_new, upd_cells, Option.map_some, (r5).eq]); done)
                | ((unfold Blk; simp (disch := first | omega | (simp; done) | (simp; omega)) only [hp_drew, hp_drewN, hp_alloc, hp_other, hp_same, hp_new, upd_cells, Option.map_some]) <;> (simp; done))
                | ((unfold Blk; simp (disch := first | omega | (simp; done) | (simp; omega)) only [hp_drew, hp_drewN, hp_alloc, hp_other, hp_same, hp_new, upd_cells, Option.map_some]); done)
            · unfold LexAt
              first
                | ((unfold Blk; simp (disch := first | omega | (simp; done) | (simp; omega)) only [hp_drew, hp_drewN, hp_alloc, hp_other, hp_same, hp_new, upd_cells, Option.map_some, (g4).eq]); done)
                | ((unfold Blk; simp (disch := first | omega | (simp; done) | (simp; omega)) only [hp_drew, hp_drewN, hp_alloc, hp_other, hp_same, hp_new, upd_cells, Option.map_some, (g4).eq]) <;> (simp; done))
            · first
                | ((unfold Blk; simp (disch := first | omega | (simp; done) | (simp; omega)) only [hp_drew, hp_drewN, hp_alloc, hp_other, hp_same, hp_new, upd_cells, Option.map_some, (r4).eq]); done)
                | ((unfold Blk; simp (disch := first | omega | (simp; done) | (simp; omega)) only [hp_drew, hp_drewN, hp_alloc, hp_other, hp_same, hp_new, upd_cells, Option.map_some, (r4).eq]) <;> (simp; done))
            · omega
            · (repeat (first | (with_reducible exact Fr.refl _ _) | (with_reducible assumption) | (with_reducible exact Fr.of_nil (by assumption)) | (with_reducible refine Fr.drew ?_) | (with_reducible refine Fr.drewN ?_ _) | (with_reducible refine Fr.alloc ?_ _) | (with_reducible refine Fr.set ?_ _ _ (by first | (intros; omega) | (simp; done) | (simp; omega))) | (with_reducible refine Fr.via ?_ (by assumption)) | (with_reducible refine Fr.comp ?_ (by assumption))))
        case rest =>
          obtain ⟨g, rfl, k1, k2, k3, hg, f5⟩ := hcut
          obtain ⟨wx, rfl⟩ : ∃ V, V = wc := ⟨_, rfl⟩
          have HX := Lib.hid (And.intro hXt HR.out)
          have hlib := (HL.out.fr f5)
          have c0 := k1.cell 0
          have c1 := k1.cell 1
          have c2 := k1.cell 2
          have c3 := k1.cell 3
          have c4 := k1.cell 4
          have d0 := k1.free 0
          have d1 := k1.free 1
          have d2 := k1.free 2
          have d3 := k1.free 3
          have d4 := k1.free 4
          have q0 := k3.cell 0
          have q1 := k3.cell 1
          have q2 := k3.cell 2
          have q3 := k3.cell 3
          have q4 := k3.cell 4
          have y0 := k3.free 0
          have y1 := k3.free 1
          have y2 := k3.free 2
          have y3 := k3.free 3
          have y4 := k3.free 4
          simp at c0 c1 c2 c3 c4 q0 q1 q2 q3 q4
          have hg5 := k1.lt
          have hw5 := k3.lt
          have hn1 : g ≠ w.heap.size := by omega
          have hn2 : w.heap.size ≠ g := by omega
          have hbg : b ≠ g := by omega
          have hbw : b ≠ w.heap.size := by omega
          clear r3 g3 f3 hbV
          by_cases he : t = [45, 62]
          · have hT0 : (T.toList == [45, 62]) = true := by rw [Lib.toList_data, HT.out.2.2.1, he]; rfl
            have hk : (if t ∈ punctsL then 6 else 4) = (6 : Int) := by rw [he]; rfl
            rw [hk] at HX
            go_wp2
            refine bodyPost_ret (v := .tuple #[.agg #[.int .i64 6, .string X, .bool false, .int .u64 0, .int .i64 ln], .int .i64 0]) (by simp [results, Tryd.results32, go_sem, *]) rfl ⟨?_, by (repeat (first | (with_reducible exact Fr.refl _ _) | (with_reducible assumption) | (with_reducible exact Fr.of_nil (by assumption)) | (with_reducible refine Fr.drew ?_) | (with_reducible refine Fr.drewN ?_ _) | (with_reducible refine Fr.alloc ?_ _) | (with_reducible refine Fr.set ?_ _ _ (by first | (intros; omega) | (simp; done) | (simp; omega))) | (with_reducible refine Fr.via ?_ (by assumption)) | (with_reducible refine Fr.comp ?_ (by assumption))))⟩
            rw [HX.out.2]
            refine ⟨⟨6, t, false, 0, ln⟩, a + t.length, ?_, fun _ => ⟨by first | simp_all | skip, rfl⟩, HX2.out, ?_⟩
            · rw [← HX.out.1]; rfl
            · unfold LexAt
              (unfold Blk; simp (disch := first | omega | (simp; done) | (simp; omega)) only [hp_drew, hp_drewN, hp_alloc, hp_other, hp_same, hp_new, upd_cells, Option.map_some, (k2).eq])
          · have hT0 : (T.toList == [45, 62]) = false := by rw [Lib.toList_data, HT.out.2.2.1]; simpa using he
            have hpt := HPT.out he
            obtain ⟨m, hm⟩ := hlib.len
            have hco := HCON.out wx m hm
            rw [hpt] at hco
            by_cases hq : t ∈ punctsL
            · rw [show decide (t ∈ punctsL) = true from decide_eq_true hq] at hco
              rw [if_pos hq] at HX
              have HC := Lib.hid hco
              clear hco hpt
              go_wp2_with (first
                | (go_at_call 46; refine (HC.out).mono ?_; rintro e w4 ⟨rfl, rfl⟩)
                | fail)
              refine bodyPost_ret (v := .tuple #[.agg #[.int .i64 6, .string X, .bool false, .int .u64 0, .int .i64 ln], .int .i64 0]) (by simp [results, Tryd.results32, go_sem, *]) rfl ⟨?_, by (repeat (first | (with_reducible exact Fr.refl _ _) | (with_reducible assumption) | (with_reducible exact Fr.of_nil (by assumption)) | (with_reducible refine Fr.drew ?_) | (with_reducible refine Fr.drewN ?_ _) | (with_reducible refine Fr.alloc ?_ _) | (with_reducible refine Fr.set ?_ _ _ (by first | (intros; omega) | (simp; done) | (simp; omega))) | (with_reducible refine Fr.via ?_ (by assumption)) | (with_reducible refine Fr.comp ?_ (by assumption))))⟩
              rw [HX.out.2]
              refine ⟨⟨6, t, false, 0, ln⟩, a + t.length, ?_, fun _ => ⟨by first | simp_all | skip, rfl⟩, HX2.out, ?_⟩
              · rw [← HX.out.1]; rfl
              · unfold LexAt
                (unfold Blk; simp (disch := first | omega | (simp; done) | (simp; omega)) only [hp_drew, hp_drewN, hp_alloc, hp_other, hp_same, hp_new, upd_cells, Option.map_some, (k2).eq])
            · rw [show decide (t ∈ punctsL) = false from decide_eq_false hq] at hco
              rw [if_neg hq] at HX
              have HC := Lib.hid hco
              clear hco hpt
              go_wp2_with (first
                | (go_at_call 46; refine (HC.out).mono ?_; rintro e w4 ⟨rfl, rfl⟩)
                | fail)
              refine bodyPost_ret (v := .tuple #[.agg #[.int .i64 4, .string X, .bool false, .int .u64 0, .int .i64 ln], .int .i64 0]) (by simp [results, Tryd.results32, go_sem, *]) rfl ⟨?_, by (repeat (first | (with_reducible exact Fr.refl _ _) | (with_reducible assumption) | (with_reducible exact Fr.of_nil (by assumption)) | (with_reducible refine Fr.drew ?_) | (with_reducible refine Fr.drewN ?_ _) | (with_reducible refine Fr.alloc ?_ _) | (with_reducible refine Fr.set ?_ _ _ (by first | (intros; omega) | (simp; done) | (simp; omega))) | (with_reducible refine Fr.via ?_ (by assumption)) | (with_reducible refine Fr.comp ?_ (by assumption))))⟩
              rw [HX.out.2]
              refine ⟨⟨4, t, false, 0, ln⟩, a + t.length, ?_, fun _ => ⟨by first | simp_all | skip, rfl⟩, HX2.out, ?_⟩
              · rw [← HX.out.1]; rfl
              · unfold LexAt
                (unfold Blk; simp (disch := first | omega | (simp; done) | (simp; omega)) only [hp_drew, hp_drewN, hp_alloc, hp_other, hp_same, hp_new, upd_cells, Option.map_some, (k2).eq])
      · rw [Bool.not_eq_true] at hp
        rw [hp] at hpre
        have HP := Lib.hid hpre
        have HA2 : Hid (∀ j, (h : j < signsL.length) → j < k + 1 → signsL[j].isPrefixOf (s.data.toList.drop a) = false) := Lib.hid (fun j h hj => by
          rcases Nat.lt_or_ge j k with q | q
          · exact HA.out j h q
          · obtain rfl : j = k := by omega
            rw [ht]; exact hp)
        clear ht htm hT hTl hTs hpre hp
        go_wp2
        go_quiet ((go_at_call 23; exact Calls.quiet_of_same (HP.out _)))
        go_wp2
        go_roundw
        case rel => exact ⟨k + 1, by omega, by go_num, HA2, Blk.drewN g2 _, Blk.drewN r2 _, f2.drewN _⟩
        case measure => simp [intOf]; omega
    · obtain rfl : k = 21 := by omega
      have hr := HN.out (fun c hc => by
        obtain ⟨j, hj, rfl⟩ := List.mem_iff_getElem.1 hc
        exact HA.out j hj (by omega))
      have HR := Lib.hid hr
      have q0 := r2.cell 0
      have q1 := r2.cell 1
      have q2 := r2.cell 2
      have q3 := r2.cell 3
      have q4 := r2.cell 4
      have y0 := r2.free 0
      have y1 := r2.free 1
      have y2 := r2.free 2
      have y3 := r2.free 3
      have y4 := r2.free 4
      simp at q0 q1 q2 q3 q4
      have hw5 := r2.lt
      clear hr
      go_wp2
      refine bodyPost_ret (v := .tuple #[.agg #[.int .i64 0, .string ⟨#[]⟩, .bool false, .int .u64 0, .int .i64 0], .int .i64 3]) (by simp [results, Tryd.results32, go_sem, *]) rfl ⟨?_, by (repeat (first | (with_reducible exact Fr.refl _ _) | (with_reducible assumption) | (with_reducible exact Fr.of_nil (by assumption)) | (with_reducible refine Fr.drew ?_) | (with_reducible refine Fr.drewN ?_ _) | (with_reducible refine Fr.alloc ?_ _) | (with_reducible refine Fr.set ?_ _ _ (by first | (intros; omega) | (simp; done) | (simp; omega))) | (with_reducible refine Fr.via ?_ (by assumption)) | (with_reducible refine Fr.comp ?_ (by assumption))))⟩
      rw [HR.out]
      refine ⟨none_ 0, a, rfl, fun q => absurd (show (3 : Int) = 0 from q) (by decide), by omega, ?_⟩
      unfold LexAt
      (unfold Blk; simp (disch := first | omega | (simp; done) | (simp; omega)) only [hp_drew, hp_drewN, hp_alloc, hp_other, hp_same, hp_new, upd_cells, Option.map_some, (g2).eq])
end Go.Proofs.YtomcmelgioamlaaDoor
