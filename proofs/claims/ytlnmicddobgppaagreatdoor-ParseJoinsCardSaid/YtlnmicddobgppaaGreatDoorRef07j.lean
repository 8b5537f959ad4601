/-
  Contracts of the document's answer for layer 7: all tokens of a source. No conditions but sizes that memory bears.
-/
import Derived.Test.YtlnmicddobgppaaGreatDoorRefB
import Derived.Test.YtlnmicddobgppaaGreatDoorAppend
import Derived.Lib.SmallJoins
namespace Go.Proofs.YtlnmicddobgppaaGreatDoor
set_option linter.unusedSimpArgs false
set_option linter.unusedVariables false
open Go.RowKit

theorem infoTok : (Tryz.prog.info? 41).map (fun i => (i.zero, i.size, i.bytes)) = some (some (.agg #[.int .i64 0, .string ⟨#[]⟩, .bool false, .int .u64 0, .int .i64 0]), 5, 48) := by kernel_rfl
def tokCells (t : TokV) : List Value := [.int .i64 t.kind, .string ⟨t.text.toArray⟩, .bool t.flt, .int .u64 (t.bits : Int), .int .i64 (t.line : Int)]
def flatT (l : List TokV) : List Value := l.flatMap tokCells
theorem flatT_snoc (l : List TokV) (t : TokV) : flatT (l ++ [t]) = flatT l ++ tokCells t := by simp [flatT]
theorem flatT_len (l : List TokV) : (flatT l).length = l.length * 5 := by
  induction l with
  | nil => rfl
  | cons t l ih =>
    have : flatT (t :: l) = tokCells t ++ flatT l := rfl
    rw [this, List.length_append, ih]
    simp [tokCells]; omega
theorem Fr.grown0 {w w' : World} (h : Fr Nil w w') : w.grownBy w' none := ⟨h.os, h.tape, h.output, h.size, fun k hk _ => h.block k hk (fun q => q.elim)⟩
theorem owns_fr {w w' : World} {base size n : Nat} {t : TypeId} {v : Value} {xs : List Value} (h : w.ownsRow base t size v n xs) (f : Fr Nil w w') : w'.ownsRow base t size v n xs := h.kept f.grown0 (by cases v.ownBlock <;> simp)
theorem owns_shape {w : World} {base n size : Nat} {t : TypeId} {u : Value} {xs : List Value} (h : w.ownsRow base t size u n xs) : ∃ a cap, u = .slice a n cap := by
  rcases h.2 with ⟨rfl, rfl⟩ | ⟨g, cap, cur, rfl, _⟩
  · exact ⟨_, _, rfl⟩
  · exact ⟨_, _, rfl⟩
/-- A row of tokens of the call's own. -/
def ToksAt (base : Nat) (w : World) (v : Value) (l : List TokV) : Prop := w.ownsRow base 41 5 v l.length (flatT l)
theorem ToksAt.fr {base : Nat} {w w' : World} {v : Value} {l : List TokV} (h : ToksAt base w v l) (f : Fr Nil w w') : ToksAt base w' v l := owns_fr h f
theorem blk_src5 {w : World} {b : Nat} {x y z u v : Value} {t : TypeId} (h : Blk w b #[x, y, z, u, v] t) : Src w (some ⟨b, 0, none⟩) 1 5 [x, y, z, u, v] :=
  .inr ⟨_, rfl, rfl, fun j u hj => by
    rw [add_head, h.cell j]
    simpa using hj⟩
theorem lexG_end (n : Nat) (acc : List TokV) (line : Nat) : lexG n acc [] line = ⟨acc, 0, 0⟩ := by cases n <;> simp [lexG]
theorem lexG_bad {n : Nat} {acc : List TokV} {l : List UInt8} {line : Nat} (hl : l ≠ []) (h : (oneF l line).2 ≠ 0) : lexG (n + 1) acc l line = ⟨[], (oneF l line).2, line⟩ := by
  unfold lexG
  rw [if_neg hl]
  simp only
  rw [if_pos (by rw [if_neg (fun q => h q.1)]; exact h), if_neg (fun q => h q.1)]
theorem lexG_full {n : Nat} {acc : List TokV} {l : List UInt8} {line : Nat} (hl : l ≠ []) (h : (oneF l line).2 = 0) (ha : acc.length = 4096) : lexG (n + 1) acc l line = ⟨[], 2, line⟩ := by
  unfold lexG
  rw [if_neg hl]
  simp only
  rw [if_pos (by rw [if_pos ⟨h, ha⟩]; decide), if_pos ⟨h, ha⟩]
theorem lexG_more {n : Nat} {acc : List TokV} {l : List UInt8} {line : Nat} (hl : l ≠ []) (h : (oneF l line).2 = 0) (ha : acc.length ≠ 4096) :
    lexG (n + 1) acc l line = lexG n (acc ++ [(oneF l line).1]) (skipF false (l.drop (oneF l line).1.text.length) line).1 (skipF false (l.drop (oneF l line).1.text.length) line).2 := by
  conv => lhs; unfold lexG
  rw [if_neg hl]
  simp only
  rw [if_neg (by rw [if_neg (fun q => ha q.2)]; exact fun q => q h)]
set_option maxRecDepth 100000 in
set_option maxHeartbeats 2000000 in
theorem rlex_any (s : ByteArray) (w : World) (hs : s.size ≤ 1000000) :
    Calls Tryz.prog 21 #[.string s] w fun e w' => ∃ v, e = .returned (.tuple #[v, .int .i64 (lexF s.data.toList).err, .int .i64 ((lexF s.data.toList).line : Int)]) ∧ ToksAt w.heap.size w' v (lexF s.data.toList).toks ∧ Fr Nil w w' := by
  obtain ⟨i0, hi, hz0, hz1, hz2⟩ := info_parts infoTok
  obtain ⟨R, hR⟩ : ∃ R, lexF s.data.toList = R := ⟨_, rfl⟩
  rw [hR]
  obtain ⟨T, hT⟩ : ∃ T, skipF false s.data.toList 1 = T := ⟨_, rfl⟩
  have hlex : lexG (s.size + 1) [] T.1 T.2 = R := by
    rw [← hR, ← hT]
    unfold lexF
    rw [size_of]
  have hskip := fun w => skip_any s 0 1 w hs (Nat.zero_le _) (by omega)
  simp only [List.drop_zero, hT] at hskip
  have hTd : T.1 = s.data.toList.drop (s.size - T.1.length) := by rw [← hT, ← size_of s]; exact skipF_drop _ _ _
  have hTl : T.2 ≤ 1 + (s.size - T.1.length) := by
    have h1 := skipF_line false s.data.toList 1
    rw [hT, size_of] at h1
    omega
  unfold skipAt at hskip
  obtain ⟨a0, ha0⟩ : ∃ a0, s.size - T.1.length = a0 := ⟨_, rfl⟩
  rw [ha0] at hTd hTl
  simp only [ha0] at hskip
  rw [hTd] at hlex
  have ha0s : a0 ≤ s.size := by omega
  obtain ⟨l0, hl0⟩ : ∃ l0, T.2 = l0 := ⟨_, rfl⟩
  rw [hl0] at hTl hlex
  simp only [hl0] at hskip
  have HLEX := Lib.hid hlex
  have HSKIP := Lib.hid hskip
  clear hR hT hlex hskip hTd ha0 hl0
  go_enter Tryz.func21, Tryz.ntmps21
  go_wp2_with fail
  refine (HSKIP.out _).mono ?_
  rintro e w1 ⟨rfl, rfl⟩
  go_wp2_with fail
  go_loopw [5, 6, 7] (fun vo i n wr => ∃ (acc : List TokV) (a ln f : Nat) (v : Value), v = vo ∧ a ≤ s.size ∧ ln ≤ 1 + a ∧ s.size + 1 ≤ f + a ∧ acc.length ≤ 4096 ∧ i = .int .i64 a ∧ n = .int .i64 ln ∧ Hid (lexG f acc (s.data.toList.drop a) ln = R) ∧ ToksAt w.heap.size wr v acc ∧ Fr Nil w wr) (fun _ i _ _ => s.size - (intOf i).toNat)
  case atStart => exact ⟨[], a0, l0, s.size + 1, _, rfl, ha0s, hTl, by omega, by simp, rfl, rfl, HLEX, World.ownsRow_nil _ _ _ _, Fr.refl _ _⟩
  case round =>
    obtain ⟨acc, a, ln, f, v, rfl, ha, hln, hf, hacc, rfl, rfl, HL, hv, hw⟩ := hrel
    clear HLEX HSKIP hTl ha0s
    by_cases hz : a < s.size
    · obtain ⟨f, rfl⟩ : ∃ g, f = g + 1 := ⟨f - 1, by omega⟩
      have hne : s.data.toList.drop a ≠ [] := by rw [drop_cons s a hz]; simp
      have i1 : (a : Int) < (s.size : Int) := by omega
      have hpre := oneF_pre (s.data.toList.drop a) ln
      have hone := fun w => one_any s a ln w hs hz
      have hbad := fun h => lexG_bad (n := f) (acc := acc) (line := ln) hne h
      have hful := fun h => lexG_full (n := f) (acc := acc) (line := ln) hne h
      have hmor := fun h => lexG_more (n := f) (acc := acc) (line := ln) hne h
      obtain ⟨tk, er, hp⟩ : ∃ tk er, oneF (s.data.toList.drop a) ln = (tk, er) := ⟨_, _, rfl⟩
      rw [hp] at hpre hbad hful hmor
      simp only [hp] at hone
      simp only at hpre hbad hful hmor
      have HONE := Lib.hid hone
      have HPRE := Lib.hid hpre
      obtain ⟨vf, cp, hvf⟩ : ∃ vf cp, v = .slice vf acc.length cp := owns_shape hv
      subst hvf
      have HV := Lib.hid hv
      clear hone hpre hp hne hv
      by_cases he : er = 0
      · subst he
        by_cases hfull : acc.length = 4096
        · have hr := hful rfl hfull
          rw [HL.out] at hr
          have HR := Lib.hid hr
          have t3 : ((acc.length : Int) == 4096) = true := by rw [hfull]; rfl
          clear hbad hful hmor hr HL hfull
          go_wp2_with fail
          refine (HONE.out _).mono ?_
          rintro e w2 ⟨⟨tt, rfl, hq⟩, f2⟩
          clear hq HONE
          unfold tokV
          go_wp2
          go_ret3
          refine ⟨.slice none 0 0, by rw [HR.out]; rfl, by rw [HR.out]; exact World.ownsRow_nil _ _ _ _, ?_⟩
          (repeat (first | (with_reducible exact Fr.refl _ _) | (with_reducible assumption) | (with_reducible exact Fr.of_nil (by assumption)) | (with_reducible refine Fr.drew ?_) | (with_reducible refine Fr.drewN ?_ _) | (with_reducible refine Fr.alloc ?_ _) | (with_reducible refine Fr.set ?_ _ _ (by first | (intros; omega) | (simp; done) | (simp; omega))) | (with_reducible refine Fr.via ?_ (by assumption)) | (with_reducible refine Fr.comp ?_ (by assumption))))
        · have hr := hmor rfl hfull
          rw [HL.out] at hr
          obtain ⟨hp1, hp2, hp3⟩ := HPRE.out rfl
          clear hp3
          obtain ⟨X, hX⟩ : ∃ X : ByteArray, (⟨tk.text.toArray⟩ : ByteArray) = X := ⟨_, rfl⟩
          have hXs : tk.text.length = X.size := by rw [← hX]; simp [ByteArray.size]
          have hpl := hp1.length_le
          rw [List.length_drop, size_of] at hpl
          have hsk : ∀ w, Calls Tryz.prog 42 #[.string s, .int .i64 ((a : Int) + (X.size : Int)), .int .i64 ln] w fun e w' => e = .returned (skipAt s (skipF false (s.data.toList.drop (a + X.size)) ln)) ∧ w = w' := fun w => by
            have := skip_any s (a + X.size) ln w hs (by omega) (by omega)
            rwa [show ((a + X.size : Nat) : Int) = (a : Int) + (X.size : Int) by omega] at this
          rw [List.drop_drop, hXs] at hr
          have q1 := skipF_len false (s.data.toList.drop (a + X.size)) ln
          have q2 := skipF_line false (s.data.toList.drop (a + X.size)) ln
          have q3 := skipF_drop false (s.data.toList.drop (a + X.size)) ln
          rw [List.length_drop, size_of] at q1 q2 q3
          rw [List.drop_drop] at q3
          unfold skipAt at hsk
          obtain ⟨T, hT⟩ : ∃ T, skipF false (s.data.toList.drop (a + X.size)) ln = T := ⟨_, rfl⟩
          rw [hT] at hr q1 q2 q3
          simp only [hT] at hsk
          obtain ⟨a1, ha1⟩ : ∃ a1, s.size - T.1.length = a1 := ⟨_, rfl⟩
          obtain ⟨l1, hl1⟩ : ∃ l1, T.2 = l1 := ⟨_, rfl⟩
          have q4 : a + X.size + (s.size - (a + X.size) - T.1.length) = a1 := by omega
          rw [q4] at q3
          rw [q3, hl1] at hr
          simp only [ha1, hl1] at hsk
          have r1 : a1 ≤ s.size := by omega
          have r2 : a + 1 ≤ a1 := by omega
          have r3 : l1 ≤ 1 + a1 := by omega
          have i2 : (a : Int) + (X.size : Int) ≤ (s.size : Int) := by omega
          have t3 : ((acc.length : Int) == 4096) = false := by simp; omega
          have HR := Lib.hid hr
          have HSK := Lib.hid hsk
          have HX := Lib.hid hX
          have hlt := HV.out.lt
          have HLT := Lib.hid hlt
          clear hbad hful hmor hr HL hT q1 q2 q3 q4 ha1 hl1 hsk hX hXs hp1 hp2 hpl hlt
          go_wp2_with fail
          refine (HONE.out _).mono ?_
          rintro e w2 ⟨⟨tt, rfl, hq⟩, f2⟩
          have hq' := hq rfl
          subst hq'
          clear hq HONE HPRE
          unfold tokV
          rw [HX.out]
          have hs2 := f2.size
          go_wp2_with (first
            | (at_builtin; refine wpList_append_src rfl (.tmp 37) (.tmp 39) 34 rfl w.heap.size 41 i0 (.agg #[.int .i64 0, .string ⟨#[]⟩, .bool false, .int .u64 0, .int .i64 0]) 5 48 Tryz.underlying34 hi hz0 hz1 hz2 rfl (by decide) (.slice vf acc.length cp) acc.length (flatT acc) rfl (HV.out.fr (by (repeat (first | (with_reducible exact Fr.refl _ _) | (with_reducible assumption) | (with_reducible exact Fr.of_nil (by assumption)) | (with_reducible refine Fr.drew ?_) | (with_reducible refine Fr.drewN ?_ _) | (with_reducible refine Fr.alloc ?_ _) | (with_reducible refine Fr.set ?_ _ _ (by first | (intros; omega) | (simp; done) | (simp; omega))) | (with_reducible refine Fr.via ?_ (by assumption)) | (with_reducible refine Fr.comp ?_ (by assumption)))))) (some ⟨w2.heap.size + 1, 0, none⟩) 1 1 [.int .i64 tt.kind, .string X, .bool tt.flt, .int .u64 (tt.bits : Int), .int .i64 (tt.line : Int)] rfl (blk_src5 (t := 41) (by (unfold Blk; simp (disch := first | omega | (simp; done) | (simp; omega)) only [hp_drew, hp_drewN, hp_alloc, hp_other, hp_same, hp_new, upd_cells, Option.map_some]))) (by simp [Value.oneCell']) (by unfold maxLen; omega) (by omega) (by have := hw.size; simp; omega) ?_; intro v' w3 hown hgrow hat; have fg := (Fr.refl (fun k => (Value.slice vf acc.length cp).ownBlock = some k) _).grown hgrow (fun k q _ => q); have s3 := fg.blk (b := w2.heap.size) (c := #[.int .i64 tt.kind, .string X, .bool tt.flt, .int .u64 (tt.bits : Int), .int .i64 (tt.line : Int)]) (t := 41) (by (unfold Blk; simp (disch := first | omega | (simp; done) | (simp; omega)) only [hp_drew, hp_drewN, hp_alloc, hp_other, hp_same, hp_new, upd_cells, Option.map_some])) (fun q => by have := HLT.out _ q; omega); have p1 := s3.cell 1; simp at p1; have f3 : Fr Nil w w3 := Fr.trans (by (repeat (first | (with_reducible exact Fr.refl _ _) | (with_reducible assumption) | (with_reducible exact Fr.of_nil (by assumption)) | (with_reducible refine Fr.drew ?_) | (with_reducible refine Fr.drewN ?_ _) | (with_reducible refine Fr.alloc ?_ _) | (with_reducible refine Fr.set ?_ _ _ (by first | (intros; omega) | (simp; done) | (simp; omega))) | (with_reducible refine Fr.via ?_ (by assumption)) | (with_reducible refine Fr.comp ?_ (by assumption))))) fg (fun k hk q => by have := HLT.out k q; omega); have HOWN := Lib.hid hown; obtain ⟨g, cap, rfl⟩ := Joins.ownsRow_form hown (by omega); clear hown hgrow hat fg s3)
            | (go_at_call 42; refine (HSK.out _).mono ?_; rintro e w4 ⟨rfl, rfl⟩))
          go_roundw
          case rel => exact ⟨acc ++ [tt], a1, l1, f, _, rfl, r1, r3, by omega, by simp; omega, rfl, rfl, Lib.hid HR.out.symm, by
              have := HOWN.out
              unfold ToksAt
              rw [flatT_snoc]
              unfold tokCells
              rw [HX.out]
              simpa using this, f3⟩
          case measure => simp [intOf]; omega
      · have hr := hbad he
        rw [HL.out] at hr
        have HR := Lib.hid hr
        have t1 : (er == 0) = false := by simpa using he
        have t2 : (er != 0) = true := by simpa using he
        clear hbad hful hmor hr he HL
        go_wp2_with fail
        refine (HONE.out _).mono ?_
        rintro e w2 ⟨⟨tt, rfl, hq⟩, f2⟩
        clear hq HONE
        unfold tokV
        go_wp2
        go_ret3
        refine ⟨.slice none 0 0, by rw [HR.out]; rfl, by rw [HR.out]; exact World.ownsRow_nil _ _ _ _, ?_⟩
        (repeat (first | (with_reducible exact Fr.refl _ _) | (with_reducible assumption) | (with_reducible exact Fr.of_nil (by assumption)) | (with_reducible refine Fr.drew ?_) | (with_reducible refine Fr.drewN ?_ _) | (with_reducible refine Fr.alloc ?_ _) | (with_reducible refine Fr.set ?_ _ _ (by first | (intros; omega) | (simp; done) | (simp; omega))) | (with_reducible refine Fr.via ?_ (by assumption)) | (with_reducible refine Fr.comp ?_ (by assumption))))
    · have hr := HL.out
      rw [drop_end s a (by omega), lexG_end] at hr
      have HR := Lib.hid hr
      have HV := Lib.hid hv
      obtain ⟨vf, cp, rfl⟩ := owns_shape hv
      clear hr HL hv
      go_wp2
      go_ret3
      refine ⟨.slice vf acc.length cp, by rw [← HR.out]; rfl, by rw [← HR.out]; exact HV.out, ?_⟩
      (repeat (first | (with_reducible exact Fr.refl _ _) | (with_reducible assumption) | (with_reducible exact Fr.of_nil (by assumption)) | (with_reducible refine Fr.drew ?_) | (with_reducible refine Fr.drewN ?_ _) | (with_reducible refine Fr.alloc ?_ _) | (with_reducible refine Fr.set ?_ _ _ (by first | (intros; omega) | (simp; done) | (simp; omega))) | (with_reducible refine Fr.via ?_ (by assumption)) | (with_reducible refine Fr.comp ?_ (by assumption))))
end Go.Proofs.YtlnmicddobgppaaGreatDoor
