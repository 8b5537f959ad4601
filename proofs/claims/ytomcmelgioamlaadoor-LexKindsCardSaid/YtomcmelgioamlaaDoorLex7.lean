/-
  Contracts of package lex: all tokens of a source. Conditions: sizes that memory bears, and the library's variables.
-/
import Derived.Test.YtomcmelgioamlaaDoorLex6
import Derived.Test.YtomcmelgioamlaaDoorRef07j
import Derived.Deep.Onto
namespace Go.Proofs.YtomcmelgioamlaaDoor
set_option linter.unusedSimpArgs false
set_option linter.unusedVariables false
open Go.RowKit

/-- The library's variables. -/
structure LibW (w : World) : Prop where
  err : ErrV w
  len : ∃ m : Int, w.cell? ⟨0, 0, none⟩ = some (.int .i64 m)
theorem LibW.new {w : World} (h : LibW w) : LibV w w.heap.size := by
  obtain ⟨⟨ev, h1, h2⟩, ⟨m, h3⟩⟩ := h
  have e1 := World.block_lt_of_cell? w _ h1
  have e3 := World.block_lt_of_cell? w _ h3
  exact ⟨⟨ev, h1, h2⟩, ⟨m, h3⟩, by simp at e1; omega, by simp at e3; omega⟩
theorem LibW.fr {w w1 : World} (h : LibW w) (f : Fr Nil w w1) : LibW w1 := by
  obtain ⟨⟨ev, h1, h2⟩, ⟨m, h3⟩⟩ := h
  exact ⟨⟨ev, f.cell h1 (fun q => q), h2⟩, ⟨m, f.cell h3 (fun q => q)⟩⟩
theorem ToksAt.frb {base b : Nat} {w w' : World} {v : Value} {l : List TokV} (h : ToksAt base w v l) (f : Fr (fun k => k = b) w w') (hb : b < base) : ToksAt base w' v l := by
  unfold ToksAt at h ⊢
  have hlt := h.lt
  refine h.kept (row := some b) ⟨f.os, f.tape, f.output, f.size, fun k hk hn => f.block k hk (fun q => hn (by rw [q]))⟩ ?_
  cases hv : v.ownBlock with
  | none => exact .inl rfl
  | some k => exact .inr (fun q => by
      have := hlt k hv
      have : k = b := by simpa using q
      omega)
set_option maxRecDepth 100000 in
set_option maxHeartbeats 2000000 in
theorem lex_any (s : ByteArray) (w : World) (hW : LibW w) (hs : s.size ≤ 100000) :
    Calls Tryd.prog 11 #[.string s] w fun e w' => ∃ v, e = .returned (.tuple #[v, .int .i64 (lexF s.data.toList).err, .int .i64 ((lexF s.data.toList).line : Int)]) ∧ ToksAt w.heap.size w' v (lexF s.data.toList).toks ∧ Fr Nil w w' := by
  obtain ⟨i0, hi, hz0, hz1, hz2⟩ := info_parts infoTok
  obtain ⟨R, hR⟩ : ∃ R, lexF s.data.toList = R := ⟨_, rfl⟩
  rw [hR]
  obtain ⟨T, hT⟩ : ∃ T, skipF false s.data.toList 1 = T := ⟨_, rfl⟩
  have hlex : lexG (s.size + 1) [] T.1 T.2 = R := by
    rw [← hR, ← hT]
    unfold lexF
    rw [size_of]
  have hskip := fun w' (h : LexAt w' w.heap.size s 0 1) => skip_l w.heap.size s 0 1 w' h (by omega) (Nat.zero_le _) (by omega)
  simp only [List.drop_zero, hT] at hskip
  have hTd : T.1 = s.data.toList.drop (s.size - T.1.length) := by rw [← hT, ← size_of s]; exact skipF_drop _ _ _
  have hTl : T.2 ≤ 1 + (s.size - T.1.length) := by
    have h1 := skipF_line false s.data.toList 1
    rw [hT, size_of] at h1
    omega
  obtain ⟨a0, ha0⟩ : ∃ a0, s.size - T.1.length = a0 := ⟨_, rfl⟩
  rw [ha0] at hTd hTl
  simp only [ha0] at hskip
  rw [hTd] at hlex
  have ha0s : a0 ≤ s.size := by omega
  obtain ⟨l0, hl0⟩ : ∃ l0, T.2 = l0 := ⟨_, rfl⟩
  rw [hl0] at hTl hlex
  simp only [hl0] at hskip
  have HLEX := Lib.hid hlex
  have HSKIP := Lib.hid hskip
  have HLV := Lib.hid hW.new
  clear hR hT hlex hskip hTd ha0 hl0 hW
  go_enter Tryd.func11, Tryd.ntmps11
  go_wp2_with fail
  refine (HSKIP.out _ (show Blk _ _ #[.string s, .int .i64 0, .int .i64 1] _ by (unfold Blk; simp (disch := first | omega | (simp; done) | (simp; omega)) only [hp_drew, hp_drewN, hp_alloc, hp_other, hp_same, hp_new, upd_cells, Option.map_some]))).mono ?_
  rintro e w1 ⟨rfl, g1, f1⟩
  have fW : Fr Nil w w1 := Fr.trans (by (repeat (first | (with_reducible exact Fr.refl _ _) | (with_reducible assumption) | (with_reducible exact Fr.of_nil (by assumption)) | (with_reducible refine Fr.drew ?_) | (with_reducible refine Fr.drewN ?_ _) | (with_reducible refine Fr.alloc ?_ _) | (with_reducible refine Fr.set ?_ _ _ (by first | (intros; omega) | (simp; done) | (simp; omega))) | (with_reducible refine Fr.via ?_ (by assumption)) | (with_reducible refine Fr.comp ?_ (by assumption))))) f1 (fun k hk q => by have q' : k = w.heap.size := q; omega)
  clear f1
  go_wp2_with fail
  go_loopg [6] (s.size - a0) (fun g vo wr => ∃ (acc : List TokV) (a ln f : Nat) (v : Value), v = vo ∧ g = s.size - a ∧ a ≤ s.size ∧ ln ≤ 1 + a ∧ s.size + 1 ≤ f + a ∧ acc.length ≤ 4096 ∧ Hid (lexG f acc (s.data.toList.drop a) ln = R) ∧ ToksAt (w.heap.size + 1) wr v acc ∧ LexAt wr w.heap.size s a ln ∧ Fr Nil w wr)
  case atStart => exact ⟨[], a0, l0, s.size + 1, _, rfl, rfl, ha0s, hTl, by omega, by simp, HLEX, World.ownsRow_nil _ _ _ _, g1, fW⟩
  case round =>
    obtain ⟨acc, a, ln, f, v, rfl, rfl, ha, hln, hf, hacc, HL, hv, g2, hw⟩ := hrel
    clear HLEX HSKIP hTl ha0s g1 fW
    have c1 := g2.cell 1
    simp at c1
    by_cases hz : a < s.size
    · obtain ⟨f, rfl⟩ : ∃ g, f = g + 1 := ⟨f - 1, by omega⟩
      have hne : s.data.toList.drop a ≠ [] := by rw [drop_cons s a hz]; simp
      have i1 : (a : Int) < (s.size : Int) := by omega
      have hpre := oneF_pre (s.data.toList.drop a) ln
      have hone := token_l w.heap.size s a ln wr g2 (HLV.out.fr (hw.mono (fun _ _ q => q.elim))) hs hz
      have hbad := fun h => lexG_bad (n := f) (acc := acc) (line := ln) hne h
      have hful := fun h => lexG_full (n := f) (acc := acc) (line := ln) hne h
      have hmor := fun h => lexG_more (n := f) (acc := acc) (line := ln) hne h
      obtain ⟨tk, er, hp⟩ : ∃ tk er, oneF (s.data.toList.drop a) ln = (tk, er) := ⟨_, _, rfl⟩
      rw [hp] at hpre hbad hful hmor
      simp only [hp] at hone
      unfold TokRes at hone
      simp only at hpre hbad hful hmor hone
      have HONE := Lib.hid hone
      have HPRE := Lib.hid hpre
      obtain ⟨vf, cp, hvf⟩ : ∃ vf cp, v = .slice vf acc.length cp := owns_shape hv
      subst hvf
      have HV := Lib.hid hv
      clear hone hpre hp hne hv
      by_cases he : er = 0
      · subst he
        by_cases hfull : acc.length = 4096
        · have hr := hful rfl hfull
          rw [HL.out] at hr
          have HR := Lib.hid hr
          have t3 : decide ((4096 : Int) ≤ (acc.length : Int)) = true := by simp; omega
          clear hbad hful hmor hr HL
          go_wp2_with fail
          refine (HONE.out).mono ?_
          rintro e w2 ⟨⟨tt, a2, rfl, hq, ha2, g3⟩, f2⟩
          have fw2 : Fr Nil w w2 := hw.trans f2 (fun k hk q => by have q' : k = w.heap.size := q; omega)
          clear hq HONE g2 c1 HV f2
          have c2 := g3.cell 2
          simp at c2
          have hb2 := g3.lt
          unfold tokV
          go_wp2
          go_quiet (fail)
          go_wp2
          go_ret3
          refine ⟨.slice none 0 0, by rw [HR.out]; rfl, by rw [HR.out]; exact World.ownsRow_nil _ _ _ _, ?_⟩
          (repeat (first | (with_reducible exact Fr.refl _ _) | (with_reducible assumption) | (with_reducible exact Fr.of_nil (by assumption)) | (with_reducible refine Fr.drew ?_) | (with_reducible refine Fr.drewN ?_ _) | (with_reducible refine Fr.alloc ?_ _) | (with_reducible refine Fr.set ?_ _ _ (by first | (intros; omega) | (simp; done) | (simp; omega))) | (with_reducible refine Fr.via ?_ (by assumption)) | (with_reducible refine Fr.comp ?_ (by assumption))))
        · have hr := hmor rfl hfull
          rw [HL.out] at hr
          obtain ⟨hp1, hp2, hp3⟩ := HPRE.out rfl
          clear hp3
          obtain ⟨X, hX⟩ : ∃ X : ByteArray, (⟨tk.text.toArray⟩ : ByteArray) = X := ⟨_, rfl⟩
          have hXs : tk.text.length = X.size := by rw [← hX]; simp [ByteArray.size]
          have hpl := hp1.length_le
          rw [List.length_drop, size_of] at hpl
          have hsk : ∀ w', LexAt w' w.heap.size s (a + X.size) ln → _ := fun w' h => skip_l w.heap.size s (a + X.size) ln w' h (by omega) (by omega) (by omega)
          rw [List.drop_drop, hXs] at hr
          have q1 := skipF_len false (s.data.toList.drop (a + X.size)) ln
          have q2 := skipF_line false (s.data.toList.drop (a + X.size)) ln
          have q3 := skipF_drop false (s.data.toList.drop (a + X.size)) ln
          rw [List.length_drop, size_of] at q1 q2 q3
          rw [List.drop_drop] at q3
          obtain ⟨T, hT⟩ : ∃ T, skipF false (s.data.toList.drop (a + X.size)) ln = T := ⟨_, rfl⟩
          rw [hT] at hr q1 q2 q3
          simp only [hT] at hsk
          obtain ⟨a1, ha1⟩ : ∃ a1, s.size - T.1.length = a1 := ⟨_, rfl⟩
          obtain ⟨l1, hl1⟩ : ∃ l1, T.2 = l1 := ⟨_, rfl⟩
          have q4 : a + X.size + (s.size - (a + X.size) - T.1.length) = a1 := by omega
          rw [q4] at q3
          rw [q3, hl1] at hr
          simp only [ha1, hl1] at hsk
          have r1 : a1 ≤ s.size := by omega
          have r2 : a + 1 ≤ a1 := by omega
          have r3 : l1 ≤ 1 + a1 := by omega
          have t3 : decide ((4096 : Int) ≤ (acc.length : Int)) = false := by simp; omega
          have HR := Lib.hid hr
          have HSK := Lib.hid hsk
          have HX := Lib.hid hX
          have HXS := Lib.hid hXs
          have hgs := hw.size
          clear hbad hful hmor hr HL hT q1 q2 q3 q4 ha1 hl1 hsk hX hXs hp1 hp2 hpl
          go_wp2_with fail
          refine (HONE.out).mono ?_
          rintro e w2 ⟨⟨tt, a2, rfl, hq, ha2, g3⟩, f2⟩
          obtain ⟨hq', ha'⟩ := hq (by trivial)
          subst hq'
          rw [HXS.out] at ha'
          subst ha'
          have fw2 : Fr Nil w w2 := hw.trans f2 (fun k hk q => by have q' : k = w.heap.size := q; omega)
          have HV2 := Lib.hid (ToksAt.frb HV.out f2 (by omega))
          have hlt := HV2.out.lt
          have HLT := Lib.hid hlt
          clear hq HONE HPRE g2 c1 HV f2 hlt
          unfold tokV
          rw [HX.out]
          have hs2 := fw2.size
          have hb2 := g3.lt
          go_wp2_with (first
            | (at_builtin; refine wpList_append_src rfl (.tmp 42) (.tmp 44) 23 rfl (w.heap.size + 1) 35 i0 (.agg #[.int .i64 0, .string ⟨#[]⟩, .bool false, .int .u64 0, .int .i64 0]) 5 48 Tryd.underlying23 hi hz0 hz1 hz2 rfl (by decide) (.slice vf acc.length cp) acc.length (flatT acc) rfl (HV2.out.fr (by (repeat (first | (with_reducible exact Fr.refl _ _) | (with_reducible assumption) | (with_reducible exact Fr.of_nil (by assumption)) | (with_reducible refine Fr.drew ?_) | (with_reducible refine Fr.drewN ?_ _) | (with_reducible refine Fr.alloc ?_ _) | (with_reducible refine Fr.set ?_ _ _ (by first | (intros; omega) | (simp; done) | (simp; omega))) | (with_reducible refine Fr.via ?_ (by assumption)) | (with_reducible refine Fr.comp ?_ (by assumption)))))) (some ⟨w2.heap.size + 1, 0, none⟩) 1 1 [.int .i64 tt.kind, .string X, .bool tt.flt, .int .u64 (tt.bits : Int), .int .i64 (tt.line : Int)] rfl (blk_src5 (t := 35) (by (unfold Blk; simp (disch := first | omega | (simp; done) | (simp; omega)) only [hp_drew, hp_drewN, hp_alloc, hp_other, hp_same, hp_new, upd_cells, Option.map_some]))) (by simp [Value.oneCell']) (by unfold maxLen; omega) (by omega) (by have := fw2.size; simp; omega) ?_; intro v' w3 hown hgrow hat; have fg := (Fr.refl (fun k => (Value.slice vf acc.length cp).ownBlock = some k) _).grown hgrow (fun k q _ => q); have s3 := fg.blk (b := w.heap.size) (c := #[.string s, .int .i64 ((a + X.size : Nat) : Int), .int .i64 (ln : Int)]) (t := 45) (by (unfold Blk; simp (disch := first | omega | (simp; done) | (simp; omega)) only [hp_drew, hp_drewN, hp_alloc, hp_other, hp_same, hp_new, upd_cells, Option.map_some, (g3).eq])) (fun q => by have := HLT.out _ q; omega); have f3 : Fr Nil w w3 := Fr.trans (by (repeat (first | (with_reducible exact Fr.refl _ _) | (with_reducible assumption) | (with_reducible exact Fr.of_nil (by assumption)) | (with_reducible refine Fr.drew ?_) | (with_reducible refine Fr.drewN ?_ _) | (with_reducible refine Fr.alloc ?_ _) | (with_reducible refine Fr.set ?_ _ _ (by first | (intros; omega) | (simp; done) | (simp; omega))) | (with_reducible refine Fr.via ?_ (by assumption)) | (with_reducible refine Fr.comp ?_ (by assumption))))) fg (fun k hk q => by have := HLT.out k q; omega); have HOWN := Lib.hid hown; obtain ⟨g, cap, rfl⟩ := Joins.ownsRow_form hown (by omega); clear hown hgrow hat fg)
            | (go_at_call 16; refine (HSK.out _ s3).mono ?_; rintro e w4 ⟨rfl, g4, f4⟩; have f5 : Fr Nil w w4 := f3.trans f4 (fun k hk q => by have q' : k = w.heap.size := q; omega); have HO4 := Lib.hid (ToksAt.frb (l := acc ++ [tt]) (base := w.heap.size + 1) (by have := HOWN.out; unfold ToksAt; rw [flatT_snoc]; unfold tokCells; rw [HX.out]; simpa using this) f4 (by omega))))
          go_roundg (s.size - a1)
          case rel => exact ⟨acc ++ [tt], a1, l1, f, _, rfl, rfl, r1, r3, by omega, by simp; omega, Lib.hid HR.out.symm, by simpa using HO4.out, g4, f5⟩
          case measure => omega
      · have hr := hbad he
        rw [HL.out] at hr
        have HR := Lib.hid hr
        have t1 : (er == 0) = false := by simpa using he
        have t2 : (er != 0) = true := by simpa using he
        clear hbad hful hmor hr he HL
        go_wp2_with fail
        refine (HONE.out).mono ?_
        rintro e w2 ⟨⟨tt, a2, rfl, hq, ha2, g3⟩, f2⟩
        have fw2 : Fr Nil w w2 := hw.trans f2 (fun k hk q => by have q' : k = w.heap.size := q; omega)
        clear hq HONE g2 c1 HV f2
        have c2 := g3.cell 2
        simp at c2
        have hb2 := g3.lt
        unfold tokV
        go_wp2
        go_quiet (fail)
        go_wp2
        go_ret3
        refine ⟨.slice none 0 0, by rw [HR.out]; rfl, by rw [HR.out]; exact World.ownsRow_nil _ _ _ _, ?_⟩
        (repeat (first | (with_reducible exact Fr.refl _ _) | (with_reducible assumption) | (with_reducible exact Fr.of_nil (by assumption)) | (with_reducible refine Fr.drew ?_) | (with_reducible refine Fr.drewN ?_ _) | (with_reducible refine Fr.alloc ?_ _) | (with_reducible refine Fr.set ?_ _ _ (by first | (intros; omega) | (simp; done) | (simp; omega))) | (with_reducible refine Fr.via ?_ (by assumption)) | (with_reducible refine Fr.comp ?_ (by assumption))))
    · have hr := HL.out
      rw [drop_end s a (by omega), lexG_end] at hr
      have HR := Lib.hid hr
      have HV := Lib.hid hv
      obtain ⟨vf, cp, rfl⟩ := owns_shape hv
      have i1 : ¬ (a : Int) < (s.size : Int) := by omega
      clear hr HL hv
      go_wp2
      go_ret3
      refine ⟨.slice vf acc.length cp, by rw [← HR.out]; rfl, by rw [← HR.out]; exact World.ownsRow.mono HV.out (by omega), ?_⟩
      (repeat (first | (with_reducible exact Fr.refl _ _) | (with_reducible assumption) | (with_reducible exact Fr.of_nil (by assumption)) | (with_reducible refine Fr.drew ?_) | (with_reducible refine Fr.drewN ?_ _) | (with_reducible refine Fr.alloc ?_ _) | (with_reducible refine Fr.set ?_ _ _ (by first | (intros; omega) | (simp; done) | (simp; omega))) | (with_reducible refine Fr.via ?_ (by assumption)) | (with_reducible refine Fr.comp ?_ (by assumption))))
end Go.Proofs.YtomcmelgioamlaaDoor
