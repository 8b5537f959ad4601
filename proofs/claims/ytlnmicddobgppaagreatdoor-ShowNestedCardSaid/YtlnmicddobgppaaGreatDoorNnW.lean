/-
  Constructors that are declared, as the program reads them (layer 8). No conditions. The program's expr, however deep; its module (layer 8). Given that tokens of such texts are of such kinds. A source's tokens that read as let, case, ( or \ are words, signs or may begin an expression anyway. No conditions. The program's Parse (layer 8): what it catches, and what it tells: just what the document's tells. Conditions: a source of at most 2^47 bytes; the tables that Go's library reads.
-/
import Derived.Test.YtlnmicddobgppaaGreatDoorNnT
import Derived.Test.YtlnmicddobgppaaGreatDoorNnK
import Derived.Test.YtlnmicddobgppaaGreatDoorNnV
import Derived.Test.YtlnmicddobgppaaGreatDoorNnQ
import Derived.Test.YtlnmicddobgppaaGreatDoorNnP
import Derived.Test.YtlnmicddobgppaaGreatDoorNnA
namespace Go.Proofs.YtlnmicddobgppaaGreatDoor
set_option maxRecDepth 100000
set_option maxHeartbeats 4000000
set_option linter.unusedSimpArgs false
set_option linter.unusedVariables false
open Go.RowKit
theorem data_bad {L : List TokV} {n : Nat} {acc : List (List UInt8 × Nat)} {s : PS} (h : s.e ≠ 0) : dataF L n acc s = (acc, s) := by
 cases n with
 | zero => rfl
 | succ n => rw [dataF, if_neg (fun q => h q.1)]
theorem token_stop3 {L : List TokV} {k : Int} {s : PS} (h : s.e ≠ 0) : tokenF L k s = (none_ 0, s) := by
 unfold tokenF faultF
 rw [if_neg (fun q => h q.1), if_pos h]
theorem data_step {L : List TokV} {n : Nat} {acc : List (List UInt8 × Nat)} {st : PS} (he : st.e = 0) (hk : (peekT L st.at_).kind = 2) :
 dataF L (n + 1) acc st = if (peekT L (st.at_ + 1)).kind = 3 then
  if (peekT L (st.at_ + 1)).flt = true ∨ 24 < (peekT L (st.at_ + 1)).bits then dataF L n (acc ++ [((peekT L st.at_).text, 0)]) (faultF L 1 { st with at_ := st.at_ + 1 })
  else dataF L n (acc ++ [((peekT L st.at_).text, (peekT L (st.at_ + 1)).bits)]) { st with at_ := st.at_ + 1 + 1 }
  else dataF L n (acc ++ [((peekT L st.at_).text, 0)]) (faultF L 3 { st with at_ := st.at_ + 1 }) := by
 rw [dataF, if_pos ⟨he, by rw [peek_kind]; exact hk⟩, tok_peek he hk]
 simp only
 obtain ⟨s1, hs1⟩ : ∃ s1 : PS, { st with at_ := st.at_ + 1 } = s1 := ⟨_, rfl⟩
 have ha : st.at_ + 1 = s1.at_ := by rw [← hs1]
 have h0 : s1.e = 0 := by rw [← hs1]; exact he
 rw [hs1, ha, peek_kind]
 show dataF L n (acc ++ [((peekT L st.at_).text, (tokenF L 3 (if (peekT L s1.at_).kind = 3 then (if (peekT L s1.at_).flt = true ∨ 24 < (peekT L s1.at_).bits then faultF L 1 s1 else s1) else s1)).1.bits)]) (tokenF L 3 (if (peekT L s1.at_).kind = 3 then (if (peekT L s1.at_).flt = true ∨ 24 < (peekT L s1.at_).bits then faultF L 1 s1 else s1) else s1)).2 = _
 by_cases h3 : (peekT L s1.at_).kind = 3
 · rw [if_pos h3, if_pos h3]
   by_cases hb : (peekT L s1.at_).flt = true ∨ 24 < (peekT L s1.at_).bits
   · rw [if_pos hb, if_pos hb, token_stop3 (fault_ne (by decide) s1)]
     rfl
   · rw [if_neg hb, if_neg hb, tok_peek h0 h3]
     rw [← hs1]
 · rw [if_neg h3, if_neg h3]
   have e : tokenF L 3 s1 = (none_ 0, faultF L 3 s1) := by unfold tokenF; rw [if_neg (fun q => h3 (by rw [← peek_kind]; exact q.2))]
   rw [e]
   rfl
section
variable {w : World} {pb : Nat} {vT : Value} {L : List TokV} {s : PS} {dp : Int}
theorem qdata_any (hs : s.e = 0) (h : QAt w pb vT L s.at_ dp) :
 Calls Tryz.prog 39 #[.pointer (some ⟨pb, 0, none⟩)] w (QEnds pb vT L dp w (fun w' v => RowsAt DAt 2 68 w.heap.size w' v (dataF L (fuelP L) [] s).1) (needF L [59] (dataF L (fuelP L) [] s).2)) := by
 obtain ⟨i0, hi, hz0, hz1, hz2⟩ := info_parts infoD
 have htf0 := run_tok0
 have htf1 := run_tok1
 have htf2 := run_tok2
 have htn := run_num1
 obtain ⟨RD, hRD⟩ : ∃ RD, dataF L (fuelP L) [] s = RD := ⟨_, rfl⟩
 rw [hRD]
 obtain ⟨F, hF⟩ : ∃ F, fuelP L = F := ⟨_, rfl⟩
 have hm := measP_le L s
 rw [hF] at hRD hm
 have hsz := h.sz
 have hF2 : F ≤ 1000002 := by unfold fuelP at hF; omega
 have hpl := h.blk.lt
 have H0 := Lib.hid (And.intro h (And.intro hRD (And.intro hm hs)))
 clear h hRD hm hF hs
 go_enter Tryz.func39, Tryz.ntmps39
 go_wp2_with fail
 go_loopg [3] F (fun g vo wr => ∃ (acc : List (List UInt8 × Nat)) (st : PS) (v : Value), v = vo ∧ acc.length + g = F ∧ Hid (dataF L g acc st = RD ∧ measP L st + 1 ≤ g ∧ st.e = 0 ∧ RowsAt DAt 2 68 w.heap.size wr v acc ∧ QAt wr pb vT L st.at_ dp) ∧ Fr (fun b => b = pb) w wr)
 case atStart => exact ⟨[], s, _, rfl, by simp, Lib.hid ⟨H0.out.2.1, H0.out.2.2.1, H0.out.2.2.2, .nil, H0.out.1⟩, Fr.refl _ _⟩
 case round =>
  obtain ⟨acc, st, v, rfl, hg, HS, hw⟩ := hrel
  obtain ⟨Vr, hVr⟩ : ∃ V, V = wr := ⟨_, rfl⟩
  subst hVr
  obtain ⟨hst, hme, he, hrow, hq⟩ := HS.out
  obtain ⟨f, rfl⟩ : ∃ f, gk = f + 1 := ⟨gk - 1, by omega⟩
  have hkp := peek_kind L st
  have HP1 := Lib.hid (fun w' (f : Fr Nil Vr w') => qpeek_any (hq.fr f))
  obtain ⟨⟨tk, tx, tf, tb, tl⟩, htk⟩ : ∃ t, peekT L st.at_ = t := ⟨_, rfl⟩
  rw [htk] at HP1 hkp
  simp only at hkp
  have hsw := hw.size
  have hown := hrow.own
  by_cases hx : tk = 2
  · subst hx
    have hstep := data_step (n := f) (acc := acc) he (by rw [htk])
    rw [hst] at hstep
    have hT := token_meas (L := L) (k := 2) (by decide) he
    rw [token_ok he hkp] at hT
    have HK := Lib.hid (fun w' (f : Fr Nil Vr w') => qkind_ok he (k := 2) (by decide) hkp (hq.fr f))
    rw [htk] at HK hstep
    simp only at hstep
    obtain ⟨s1, hs1⟩ : ∃ s1 : PS, { st with at_ := st.at_ + 1 } = s1 := ⟨_, rfl⟩
    have ha1 : st.at_ + 1 = s1.at_ := by rw [← hs1]
    have he1 : s1.e = 0 := by rw [← hs1]; exact he
    have ha2 : ({ st with at_ := st.at_ + 1 + 1 } : PS) = { s1 with at_ := s1.at_ + 1 } := by rw [← hs1]
    rw [hs1] at hT
    rw [ha2, hs1, ha1] at hstep
    rw [ha1] at HK
    have HP2 := Lib.hid (fun w' (h' : QAt w' pb vT L s1.at_ dp) => qpeek_any h')
    have HFL1 := Lib.hid (fun w' (h' : QAt w' pb vT L s1.at_ dp) => qfail_at (e := 1) (by decide) he1 h')
    have hK3 : kindP L s1 = 3 → ∀ w', QAt w' pb vT L s1.at_ dp → _ := fun q w' h' => qkind_ok he1 (k := 3) (by decide) q h'
    have HFL3 : kindP L s1 ≠ 3 → Hid (∀ w', QAt w' pb vT L s1.at_ dp → Calls Tryz.prog 73 #[.pointer (some ⟨pb, 0, none⟩), .int .i64 3] w' (Broke pb vT w' (faultF L 3 s1))) := fun q => Lib.hid (fun w' h' => by
     have h := qkind_any he1 (k := 3) (by decide) h'
     have e2 : tokenF L 3 s1 = (none_ 0, faultF L 3 s1) := by unfold tokenF; rw [if_neg (fun z => q z.2)]
     rw [e2] at h
     exact h.mono (fun e w'' z => z.resolve_left (fun y => fault_ne (L := L) (e := 3) (by decide) s1 y.1)))
    have hkp1 := peek_kind L s1
    have hT3 : kindP L s1 = 3 → measP L { s1 with at_ := s1.at_ + 1 } < measP L s1 := fun q => by
     have h := token_meas (L := L) (k := 3) (by decide) he1
     rw [token_ok he1 q] at h
     exact h
    obtain ⟨⟨k2, x2, f2, b2, l2⟩, htk2⟩ : ∃ t, peekT L s1.at_ = t := ⟨_, rfl⟩
    rw [htk2] at HP2 hstep hkp1 hK3
    simp only at hstep hkp1
    have hm1 : measP L s1 + 1 ≤ f := by omega
    have HSt := Lib.hid hstep
    obtain ⟨cl, hcl⟩ := hrow.cells
    have HCL := Lib.hid (And.intro hcl (And.intro hrow hown))
    have hown2 : ∀ k, v.ownBlock = some k → w.heap.size ≤ k := fun k q => (hown k q).1
    clear hst hme he hrow hq HS hstep hT htk hkp hs1 ha1 ha2 hcl hown htk2
    go_wp2_with fail
    refine (HP1.out _ (by exact frA)).mono ?_
    rintro e w1 ⟨rfl, f1⟩
    unfold tokV
    have F1 : Fr Nil Vr w1 := Fr.comp (S := Nil) (by exact frA) f1
    have HF1 := Lib.hid F1
    clear f1 F1
    go_wp2_with fail
    refine (HK.out _ (Fr.comp (S := Nil) HF1.out (by exact frA))).mono ?_
    rintro e w2 ⟨rfl, h2, f2'⟩
    unfold tokV
    have F2 : Fr (fun b => b = pb) Vr w2 := (Fr.of_nil HF1.out).comp (Fr.comp (S := fun b => b = pb) (by exact frG) f2')
    obtain ⟨Td, hTd⟩ : ∃ Td, w2.heap.size = Td := ⟨_, rfl⟩
    obtain ⟨W3, hW3⟩ : ∃ W3, w2.alloc (.cells #[.string ⟨tx.toArray⟩, .int .i64 0] 68) = W3 := ⟨_, rfl⟩
    have g3 : Fr Nil w2 W3 := by rw [← hW3]; exact frA
    have bD3 : Blk W3 Td #[.string ⟨tx.toArray⟩, .int .i64 0] 68 := by rw [← hW3, ← hTd]; exact Blk.new _ _ _
    have hTdV : Vr.heap.size ≤ Td := by rw [← hTd]; exact F2.size
    have H3 := Lib.hid (And.intro (h2.fr g3) (And.intro bD3 (F2.via g3)))
    have HW3 := Lib.hid (And.intro hTd hW3)
    have hneD : ¬ Td = pb := by omega
    have hneD2 : ¬ pb = Td := by omega
    clear hTd hW3 g3 bD3 h2 f2' F2
    go_upto_region 4 with fail
    try rw [HW3.out.1]
    try rw [HW3.out.2]
    clear HW3
    by_cases h3 : k2 = 3
    · subst h3
      have hK3' := Lib.hid (hK3 hkp1)
      have hT3' := hT3 hkp1
      by_cases hfl : f2 = true
      · subst hfl
        have hz := HSt.out
        rw [if_pos rfl, if_pos (.inl rfl)] at hz
        have HST := Lib.hid hz.symm
        clear hz hK3 hT3 hkp1 HFL3
        go_wp2_with fail
        refine (HP2.out _ (H3.out.1.fr (by exact frA))).mono ?_
        rintro e w4 ⟨rfl, f4⟩
        unfold tokV
        obtain ⟨Tk, hTk⟩ : ∃ Tk, w4.heap.size = Tk := ⟨_, rfl⟩
        obtain ⟨W5, hW5⟩ : ∃ W5, w4.alloc (.cells #[.int .i64 3, .string ⟨x2.toArray⟩, .bool true, .int .u64 (b2 : Int), .int .i64 (l2 : Int)] 41) = W5 := ⟨_, rfl⟩
        have F34 : Fr Nil W3 w4 := Fr.comp (S := Nil) (by exact frA) f4
        have f5 : Fr Nil w4 W5 := by rw [← hW5]; exact frA
        have F35 := F34.comp f5
        have bK5 : Blk W5 Tk #[.int .i64 3, .string ⟨x2.toArray⟩, .bool true, .int .u64 (b2 : Int), .int .i64 (l2 : Int)] 41 := by rw [← hW5, ← hTk]; exact Blk.new _ _ _
        have HW5 := Lib.hid (And.intro hTk hW5)
        clear hTk hW5
        go_upto_region 5 with fail
        try rw [HW5.out.1]
        try rw [HW5.out.2]
        have u0 := bK5.cell 0
        have u1 := bK5.cell 1
        have u2 := bK5.cell 2
        have u3 := bK5.cell 3
        have u4 := bK5.cell 4
        simp at u0 u1 u2 u3 u4
        have uf := bK5.free
        have ul := bK5.lt
        have H5 := Lib.hid (And.intro (H3.out.1.fr F35) (And.intro (F35.blk H3.out.2.1 (fun q => q)) (H3.out.2.2.via F35)))
        clear HW5 F34 f5 F35 bK5 f4
        go_wp2_with fail
        refine (HFL1.out _ (H5.out.1.fr (by exact frA))).mono ?_
        rintro r w6 hbr
        have hb2 := hbr.back ((hw.comp H5.out.2.2).comp (by exact frG))
        obtain ⟨hne, rfl, _⟩ := hbr
        refine ⟨rfl, .inr ?_⟩
        rw [← HST.out, data_bad hne]
        simp only
        rw [need_stop hne]
        exact hb2
      · have hfl : f2 = false := by simpa using hfl
        subst hfl
        by_cases hb : 24 < b2
        · have hz := HSt.out
          rw [if_pos rfl, if_pos (.inr hb)] at hz
          have HST := Lib.hid hz.symm
          have hbi : (24 : Int) < (b2 : Int) := by omega
          clear hz hK3 hT3 hkp1 HFL3
          go_wp2_with fail
          refine (HP2.out _ (H3.out.1.fr (by exact frA))).mono ?_
          rintro e w4 ⟨rfl, f4⟩
          unfold tokV
          obtain ⟨Tk, hTk⟩ : ∃ Tk, w4.heap.size = Tk := ⟨_, rfl⟩
          obtain ⟨W5, hW5⟩ : ∃ W5, w4.alloc (.cells #[.int .i64 3, .string ⟨x2.toArray⟩, .bool false, .int .u64 (b2 : Int), .int .i64 (l2 : Int)] 41) = W5 := ⟨_, rfl⟩
          have F34 : Fr Nil W3 w4 := Fr.comp (S := Nil) (by exact frA) f4
          have f5 : Fr Nil w4 W5 := by rw [← hW5]; exact frA
          have F35 := F34.comp f5
          have bK5 : Blk W5 Tk #[.int .i64 3, .string ⟨x2.toArray⟩, .bool false, .int .u64 (b2 : Int), .int .i64 (l2 : Int)] 41 := by rw [← hW5, ← hTk]; exact Blk.new _ _ _
          have HW5 := Lib.hid (And.intro hTk hW5)
          clear hTk hW5
          go_upto_region 5 with fail
          try rw [HW5.out.1]
          try rw [HW5.out.2]
          have u0 := bK5.cell 0
          have u1 := bK5.cell 1
          have u2 := bK5.cell 2
          have u3 := bK5.cell 3
          have u4 := bK5.cell 4
          simp at u0 u1 u2 u3 u4
          have uf := bK5.free
          have ul := bK5.lt
          have H5 := Lib.hid (And.intro (H3.out.1.fr F35) (And.intro (F35.blk H3.out.2.1 (fun q => q)) (H3.out.2.2.via F35)))
          clear HW5 F34 f5 F35 bK5 f4
          go_wp2_with fail
          refine (HFL1.out _ (H5.out.1.fr (by exact frA))).mono ?_
          rintro r w6 hbr
          have hb2 := hbr.back ((hw.comp H5.out.2.2).comp (by exact frG))
          obtain ⟨hne, rfl, _⟩ := hbr
          refine ⟨rfl, .inr ?_⟩
          rw [← HST.out, data_bad hne]
          simp only
          rw [need_stop hne]
          exact hb2
        · have hz := HSt.out
          rw [if_pos rfl, if_neg (fun q => q.elim (fun q => by cases q) hb)] at hz
          have HST := Lib.hid hz.symm
          have hbi : ¬ (24 : Int) < (b2 : Int) := by omega
          have icv : IntKind.i64.wrap (b2 : Int) = (b2 : Int) := by rw [IntKind.wrap_i64]; omega
          clear hz hK3 hT3 hkp1 HFL3
          go_wp2_with fail
          refine (HP2.out _ (H3.out.1.fr (by exact frA))).mono ?_
          rintro e w4 ⟨rfl, f4⟩
          unfold tokV
          obtain ⟨Tk, hTk⟩ : ∃ Tk, w4.heap.size = Tk := ⟨_, rfl⟩
          obtain ⟨W5, hW5⟩ : ∃ W5, w4.alloc (.cells #[.int .i64 3, .string ⟨x2.toArray⟩, .bool false, .int .u64 (b2 : Int), .int .i64 (l2 : Int)] 41) = W5 := ⟨_, rfl⟩
          have F34 : Fr Nil W3 w4 := Fr.comp (S := Nil) (by exact frA) f4
          have f5 : Fr Nil w4 W5 := by rw [← hW5]; exact frA
          have F35 := F34.comp f5
          have bK5 : Blk W5 Tk #[.int .i64 3, .string ⟨x2.toArray⟩, .bool false, .int .u64 (b2 : Int), .int .i64 (l2 : Int)] 41 := by rw [← hW5, ← hTk]; exact Blk.new _ _ _
          have HW5 := Lib.hid (And.intro hTk hW5)
          clear hTk hW5
          go_upto_region 5 with fail
          try rw [HW5.out.1]
          try rw [HW5.out.2]
          have u0 := bK5.cell 0
          have u1 := bK5.cell 1
          have u2 := bK5.cell 2
          have u3 := bK5.cell 3
          have u4 := bK5.cell 4
          simp at u0 u1 u2 u3 u4
          have uf := bK5.free
          have ul := bK5.lt
          have H5 := Lib.hid (And.intro (H3.out.1.fr F35) (And.intro (F35.blk H3.out.2.1 (fun q => q)) (H3.out.2.2.via F35)))
          clear HW5 F34 f5 F35 bK5 f4
          go_wp2_with fail
          refine (hK3'.out _ (H5.out.1.fr (by exact frA))).mono ?_
          rintro e w6 ⟨rfl, h6, f6⟩
          unfold tokV
          have F56 : Fr (fun b => b = pb) W5 w6 := Fr.comp (S := fun b => b = pb) (by exact frG) f6
          have bD6 := F56.blk H5.out.2.1 hneD
          have y0 := bD6.cell 0
          have y1 := bD6.cell 1
          simp at y0 y1
          have yf := bD6.free
          have yl := bD6.lt
          obtain ⟨W7, hW7⟩ : ∃ W7, w6.setCell ⟨Td, 1, none⟩ (.int .i64 (b2 : Int)) = W7 := ⟨_, rfl⟩
          have g7 : Fr (fun b => b = Td) w6 W7 := by rw [← hW7]; exact frG
          have bD7 : Blk W7 Td #[.string ⟨tx.toArray⟩, .int .i64 (b2 : Int)] 68 := by
           rw [← hW7]
           (unfold Blk; simp (disch := first | omega | (simp; done) | (simp; omega)) only [hp_drew, hp_drewN, hp_alloc, hp_other, hp_same, hp_new, upd_cells, Option.map_some, (bD6).eq])
           simp
          have FW : Fr (fun b => b = pb) Vr W7 := (H5.out.2.2.comp F56).trans g7 (fun b hb q => by have q' : b = Td := q; omega)
          have hQ7 : QAt W7 pb vT L (s1.at_ + 1) dp := ⟨g7.blk h6.blk hneD2, H0.out.1.toks.fr (hw.comp FW) (fun _ q => q), h6.le, h6.sz⟩
          have hcl7 := owns_frS HCL.out.1 FW (fun k q e => by have := hown2 k q; have e' : k = pb := e; omega)
          have hsz7 := FW.size
          have H7 := Lib.hid (And.intro hQ7 (And.intro FW hcl7))
          have HW7 := Lib.hid hW7
          clear hW7 g7 FW hQ7 hcl7 h6 f6 F56 bD6 u0 u1 u2 u3 u4 uf ul
          go_upto_region 8 with fail
          rw [HW7.out]
          clear HW7 y0 y1 yf yl
          have y0 := bD7.cell 0
          have y1 := bD7.cell 1
          simp at y0 y1
          have yf := bD7.free
          have yl := bD7.lt
          clear bD7
          go_wp2_with (first
           | (at_builtin; refine wpList_push (w := W7) rfl (.tmp 38) (.tmp 40) 23 rfl w.heap.size 68 i0 (.agg #[.string ⟨#[]⟩, .int .i64 0]) 2 24 Tryz.underlying23 hi hz0 hz1 hz2 rfl (by decide) v acc.length cl rfl H7.out.2.2 [.string ⟨tx.toArray⟩, .int .i64 (b2 : Int)] rfl rfl (by simp [Value.oneCell']) (by unfold maxLen; omega) (by omega) (by omega) ?_; intro v' w9 hown9 f9 hk9; have HO := Lib.hid (And.intro hown9 (And.intro f9 hk9)); clear hown9 f9 hk9)
           | fail)
          have E := qpush_end (a := (tx, b2)) lawD H0.out.1 hpl hw HCL.out.2.1 H7.out.2.1 H7.out.1 (show DAt _ _ _ _ from rfl) H7.out.2.2 HO.out.1 HO.out.2.1 HO.out.2.2 (Nat.le_refl _)
          go_roundg f
          case rel => exact ⟨acc ++ [(tx, b2)], { s1 with at_ := s1.at_ + 1 }, v', rfl, by simp; omega, Lib.hid ⟨HST.out, by omega, he1, E.1, E.2.1⟩, E.2.2⟩
          case measure => omega
    · have hz := HSt.out
      rw [if_neg h3] at hz
      have HST := Lib.hid hz.symm
      have d3 : (k2 == 3) = false := by simpa using h3
      have HF3 := HFL3 (fun q => h3 (by rw [← hkp1]; exact q))
      clear hz hK3 hT3 hkp1 HFL3 HFL1
      go_wp2_with fail
      refine (HP2.out _ (H3.out.1.fr (by exact frA))).mono ?_
      rintro e w4 ⟨rfl, f4⟩
      unfold tokV
      obtain ⟨Tk, hTk⟩ : ∃ Tk, w4.heap.size = Tk := ⟨_, rfl⟩
      obtain ⟨W5, hW5⟩ : ∃ W5, w4.alloc (.cells #[.int .i64 k2, .string ⟨x2.toArray⟩, .bool f2, .int .u64 (b2 : Int), .int .i64 (l2 : Int)] 41) = W5 := ⟨_, rfl⟩
      have F34 : Fr Nil W3 w4 := Fr.comp (S := Nil) (by exact frA) f4
      have f5 : Fr Nil w4 W5 := by rw [← hW5]; exact frA
      have F35 := F34.comp f5
      have bK5 : Blk W5 Tk #[.int .i64 k2, .string ⟨x2.toArray⟩, .bool f2, .int .u64 (b2 : Int), .int .i64 (l2 : Int)] 41 := by rw [← hW5, ← hTk]; exact Blk.new _ _ _
      have HW5 := Lib.hid (And.intro hTk hW5)
      clear hTk hW5
      go_upto_region 5 with fail
      try rw [HW5.out.1]
      try rw [HW5.out.2]
      have u0 := bK5.cell 0
      have u1 := bK5.cell 1
      have u2 := bK5.cell 2
      have u3 := bK5.cell 3
      have u4 := bK5.cell 4
      simp at u0 u1 u2 u3 u4
      have uf := bK5.free
      have ul := bK5.lt
      have H5 := Lib.hid (And.intro (H3.out.1.fr F35) (And.intro (F35.blk H3.out.2.1 (fun q => q)) (H3.out.2.2.via F35)))
      clear HW5 F34 f5 F35 bK5 f4
      go_wp2_with fail
      refine (HF3.out _ (H5.out.1.fr (by exact frA))).mono ?_
      rintro r w6 hbr
      have hb2 := hbr.back ((hw.comp H5.out.2.2).comp (by exact frG))
      obtain ⟨hne, rfl, _⟩ := hbr
      refine ⟨rfl, .inr ?_⟩
      rw [← HST.out, data_bad hne]
      simp only
      rw [need_stop hne]
      exact hb2
  · have d2 : (tk == 2) = false := by simpa using hx
    rw [dataF, if_neg (fun q => hx (by rw [← hkp]; exact q.2))] at hst
    subst hst
    obtain ⟨va, vc, rfl⟩ := hrow.shape
    have HWn := Lib.hid (fun w' (h' : QAt w' pb vT L st.at_ dp) => qwant_any [59] he h')
    have HQ := Lib.hid (And.intro hq hrow)
    clear hq hrow hown HS hme he hkp htk
    go_wp2_with fail
    refine (HP1.out _ (by exact frA)).mono ?_
    rintro e w1 ⟨rfl, f1⟩
    unfold tokV
    have HF1 := Lib.hid (Fr.comp (S := Nil) (by exact frA) f1 : Fr Nil Vr w1)
    clear f1
    go_wp2_with fail
    refine (HWn.out _ (HQ.out.1.fr (Fr.comp (S := Nil) HF1.out (by exact frA)))).mono ?_
    rintro e w2 (⟨hs20, v2, rfl, rfl, h2, f2⟩ | hbr)
    · have F2 : Fr (fun b => b = pb) Vr w2 := (Fr.of_nil HF1.out).comp (Fr.comp (S := fun b => b = pb) (by exact frG) f2)
      have H2 := Lib.hid (And.intro hs20 (And.intro h2 F2))
      clear hs20 h2 f2 F2
      go_wp2
      go_ret
      exact .inl ⟨H2.out.1, _, rfl, HQ.out.2.fr lawD H2.out.2.2 (fun b q => by have q' : b = pb := q; omega), H2.out.2.1, hw.comp H2.out.2.2⟩
    · have hb2 := hbr.back (hw.comp (Fr.of_nil (Fr.comp (S := Nil) HF1.out (by exact frA))))
      obtain ⟨hne, rfl, _⟩ := hbr
      exact ⟨rfl, .inr hb2⟩
end
theorem qexpr_all {pb : Nat} {vT : Value} {L : List TokV} (hB : BeginL L) : ∀ d : Nat, d ≤ 200 → QReads pb vT L d (200 - (d : Int))
 | 0, _ => qexpr_zero hB
 | d + 1, h => by
  have ih := qexpr_all (pb := pb) (vT := vT) hB d (by omega)
  have e : (200 : Int) - (d : Int) = 200 - ((d + 1 : Nat) : Int) + 1 := by omega
  rw [e] at ih
  exact qexpr_step (by omega) (by omega) ih
theorem mod_bad0 {L : List TokV} {n : Nat} {m : TM} {s : PS} (h : s.e ≠ 0) : modF L n m s = (m, s) := by
 cases n with
 | zero => rfl
 | succ n => rw [modF, if_neg (fun q => h q.1)]
theorem qrow_end0 {α : Type} {R : (Nat → Prop) → World → List Value → α → Prop} {size : Nat} {t : TypeId} {w wz w0 wa w9 wf : World} {pb Te B : Nat} {vT v v' : Value} {L : List TokV} {a0 a2 : Nat} {dp0 dp : Int} {acc : List α} {c cl : List Value} {a : α} (law : ElemLaw R size)
 (h0 : QAt w pb vT L a0 dp0) (Fw : Fr (fun b => b = pb) w wz) (hTe : w.heap.size ≤ Te) (hB : wz.heap.size = B) (hTB : Te < B) (F0 : Fr (fun b => b = pb ∨ b = Te) wz w0) (HR : RowsAt R size t B w0 v acc) (ha : QAt wa pb vT L a2 dp) (fa : Fr (fun b => b = pb) w0 wa)
 (he : R (fun b => b < w0.heap.size) wa c a) (hcl : w0.ownsRow B t size v acc.length cl) (ho : w9.ownsRow B t size v' (acc.length + 1) (cl ++ c)) (f9 : Fr (fun k => v.ownBlock = some k) wa w9) (hk : ∀ k, v'.ownBlock = some k → v.ownBlock = some k ∨ wa.heap.size ≤ k) (gf : Fr (fun b => b = Te) w9 wf) :
 RowsAt R size t B wf v' (acc ++ [a]) ∧ QAt wf pb vT L a2 dp ∧ Fr (fun b => b = pb ∨ b = Te) wz wf := by
 have hpb := h0.blk.lt
 have hown := HR.own
 have hsw := Fw.size
 have hs0 := F0.size
 have hRa := HR.fr law fa (fun b q => by have q' : b = pb := q; omega)
 have hcla := owns_frS hcl fa (fun k q e => by have := (hown k q).1; have e' : k = pb := e; omega)
 have hR9 := (hRa.push law (law.mono he (fun b _ q => by rcases q with q | q; omega; exact (hown b q).2)) hcla ho f9 hk).fr law gf (fun b q => by have q' : b = Te := q; omega)
 have G : Fr (fun b => b = pb ∨ b = Te) wz wf := ((F0.comp (fa.mono (fun _ _ q => .inl q))).trans f9 (fun k hk2 q => by have := (hown k q).1; omega)).trans gf (fun _ _ q => .inr q)
 have FF : Fr (fun b => b = pb) w wf := Fw.trans G (fun b hb q => by rcases q with q | q; exact q; omega)
 exact ⟨hR9, ⟨gf.blk (f9.blk ha.blk (fun q => by have := (hown pb q).1; omega)) (fun q => by have q' : pb = Te := q; omega), h0.toks.fr FF (fun _ q => q), ha.le, ha.sz⟩, G⟩
theorem qdata_end {t t2 : TypeId} {w wz w0 wa w9 wf : World} {pb Te B : Nat} {vT v bv v' : Value} {L : List TokV} {a0 a2 : Nat} {dp0 dp : Int} {acc ds : List (List UInt8 × Nat)} {bs : List TB} {cl dl : List (List Value)}
 (h0 : QAt w pb vT L a0 dp0) (Fw : Fr (fun b => b = pb) w wz) (hTe : w.heap.size ≤ Te) (hB : wz.heap.size = B) (hTB : Te < B) (F0 : Fr (fun b => b = pb ∨ b = Te) wz w0)
 (h1 : cl.length = acc.length) (h2 : ∀ i (h : i < cl.length) (h' : i < acc.length), DAt (fun _ => False) w cl[i] acc[i]) (hcl : w0.ownsRow B t 2 v acc.length cl.flatten)
 (HB : RowsAt (RX (fun b => v.ownBlock = some b) BAt) 10 t2 B w0 bv bs) (hd : ∀ k, v.ownBlock = some k → bv.ownBlock ≠ some k) (ha : QAt wa pb vT L a2 dp) (fa : Fr (fun b => b = pb) w0 wa)
 (g1 : dl.length = ds.length) (g2 : ∀ i (h : i < dl.length) (h' : i < ds.length), DAt (fun _ => False) w dl[i] ds[i])
 (ho : w9.ownsRow B t 2 v' (acc.length + ds.length) (cl.flatten ++ dl.flatten)) (f9 : Fr (fun k => v.ownBlock = some k) wa w9) (hk : ∀ k, v'.ownBlock = some k → v.ownBlock = some k ∨ wa.heap.size ≤ k) (gf : Fr (fun b => b = Te) w9 wf) :
 RowsAt DAt 2 t B wf v' (acc ++ ds) ∧ RowsAt (RX (fun b => v'.ownBlock = some b) BAt) 10 t2 B wf bv bs ∧ (∀ k, v'.ownBlock = some k → bv.ownBlock ≠ some k) ∧ QAt wf pb vT L a2 dp ∧ Fr (fun b => b = pb ∨ b = Te) wz wf := by
 have hpb := h0.blk.lt
 have hs4 := Fw.size
 have hs0 := F0.size
 have hsa := fa.size
 have hown := hcl.lt
 have hownB := HB.own
 have hD9 : RowsAt DAt 2 t B w9 v' (acc ++ ds) := RowsAt.joinD (w := w) (wa := w) h1 h2 g1 g2 ho
 have hown9 := ho.lt
 have hDf := hD9.frD gf (fun k q e => by have := (hown9 k q).1; have e' : k = Te := e; omega)
 have hBa := HB.fr (lawX lawB _) fa (fun b q => by have q' : b = pb := q; omega)
 have hBa2 : RowsAt (RX (fun b => v.ownBlock = some b ∨ v'.ownBlock = some b) BAt) 10 t2 B wa bv bs := hBa.reK lawB (fun b hb q => by
  rcases q with q | q
  · exact q
  · rcases hk b q with z | z
    · exact z
    · omega)
 have hB9 := hBa2.frK lawB f9 (fun b q => .inr (.inl q)) (fun k q e => hd k e q)
 have hBf := (hB9.fr (lawX lawB _) gf (fun b q => by have q' : b = Te := q; omega)).reK lawB (K' := fun b => v'.ownBlock = some b) (fun b _ q => .inr q)
 have G : Fr (fun b => b = pb ∨ b = Te) wz wf := ((F0.comp (fa.mono (fun _ _ q => .inl q))).trans f9 (fun k hk2 q => by have := (hown k q).1; omega)).trans gf (fun _ _ q => .inr q)
 have FF : Fr (fun b => b = pb) w wf := Fw.trans G (fun k hk2 q => by rcases q with q | q; exact q; omega)
 refine ⟨hDf, hBf, fun k q e => ?_, ⟨gf.blk (f9.blk ha.blk (fun q => by have := (hown pb q).1; omega)) (fun q => by have q' : pb = Te := q; omega), h0.toks.fr FF (fun _ q => q), ha.le, ha.sz⟩, G⟩
 rcases hk k q with z | z
 · exact hd k z e
 · have := (hownB k e).2; omega
section
variable {w : World} {pb : Nat} {vT : Value} {L : List TokV} {s : PS}
set_option maxHeartbeats 8000000 in
theorem qmodule_any (hB : BeginL L) (hs : s.e = 0) (h : QAt w pb vT L s.at_ 0) :
 Calls Tryz.prog 20 #[.pointer (some ⟨pb, 0, none⟩)] w (QEnds pb vT L 0 w (fun w' v => MVal (fun b => b < w.heap.size) w' v (modF L (fuelP L) ⟨[], []⟩ s).1) (modF L (fuelP L) ⟨[], []⟩ s).2) := by
 obtain ⟨i0, hi, hz0, hz1, hz2⟩ := info_parts infoB
 obtain ⟨iD, hiD, hzD0, hzD1, hzD2⟩ := info_parts infoD
 obtain ⟨R, hR⟩ : ∃ R, modF L (fuelP L) ⟨[], []⟩ s = R := ⟨_, rfl⟩
 rw [hR]
 obtain ⟨av, cv, rfl⟩ := h.toks.shape
 obtain ⟨T, hT⟩ : ∃ T, w.heap.size = T := ⟨_, rfl⟩
 obtain ⟨Tm, hTm⟩ : ∃ Tm, T + 1 = Tm := ⟨_, rfl⟩
 obtain ⟨W1, hW1⟩ : ∃ W1, w.alloc (.cells #[.slice none 0 0, .slice none 0 0] 26) = W1 := ⟨_, rfl⟩
 obtain ⟨W3, hW3⟩ : ∃ W3, W1.alloc (.cells #[.slice none 0 0, .slice none 0 0] 26) = W3 := ⟨_, rfl⟩
 have f1 : Fr Nil w W1 := by rw [← hW1]; exact frA
 have f3 : Fr Nil W1 W3 := by rw [← hW3]; exact frA
 have hz1' : W1.heap.size = Tm := by rw [← hW1, ← hTm, ← hT]; simp
 have bT3 : Blk W3 T #[.slice none 0 0, .slice none 0 0] 26 := f3.blk (by rw [← hW1, ← hT]; exact Blk.new _ _ _) (fun q => q)
 have bM3 : Blk W3 Tm #[.slice none 0 0, .slice none 0 0] 26 := by rw [← hW3, ← hz1']; exact Blk.new _ _ _
 obtain ⟨B, hBs⟩ : ∃ B, W3.heap.size = B := ⟨_, rfl⟩
 have hpT : pb < T := by rw [← hT]; exact h.blk.lt
 have hTTm : T < Tm := by omega
 have hTmB : Tm < B := by rw [← hBs]; exact bM3.lt
 have hwT : w.heap.size ≤ T := Nat.le_of_eq hT
 have hwTm : w.heap.size ≤ Tm := by omega
 have hsz := h.sz
 have HEX := Lib.hid (qexpr_all (pb := pb) (vT := .slice av L.length cv) hB 200 (Nat.le_refl _))
 have HQ3 := Lib.hid (h.fr (f1.comp f3))
 have HW := Lib.hid (And.intro h (And.intro (Fr.of_nil (S := fun b => b = pb) (f1.comp f3)) (And.intro hBs (And.intro bT3 bM3))))
 obtain ⟨F, hF⟩ : ∃ F, fuelP L = F := ⟨_, rfl⟩
 have hm := measP_le L s
 rw [hF] at hm hR
 have hF2 : F ≤ 1000002 := by unfold fuelP at hF; omega
 have HR := Lib.hid (And.intro hR (And.intro hm hs))
 have HWW := Lib.hid (And.intro hT (And.intro hTm (And.intro hW1 hW3)))
 clear hR hm hs hF h f1 f3 bT3 bM3 hT hTm hW1 hW3 hB hz1' hBs
 go_enter Tryz.func20, Tryz.ntmps20
 go_wp2_with fail
 try rw [HWW.out.1]
 try rw [HWW.out.2.1]
 try rw [HWW.out.2.2.1]
 try rw [HWW.out.2.2.2]
 clear HWW
 go_loopg [] F (fun g wr => ∃ (m : TM) (st : PS) (xv yv : Value), Hid (modF L g m st = R ∧ measP L st + 1 ≤ g ∧ st.e = 0 ∧ m.cons.length + m.binds.length + measP L st ≤ 1000001 ∧ RowsAt DAt 2 68 B wr xv m.cons ∧ RowsAt (RX (fun b => xv.ownBlock = some b) BAt) 10 51 B wr yv m.binds ∧ (∀ k, xv.ownBlock = some k → yv.ownBlock ≠ some k) ∧ QAt wr pb (.slice av L.length cv) L st.at_ 0 ∧ Blk wr Tm #[xv, yv] 26 ∧ Fr (fun b => b = pb ∨ b = Tm) W3 wr))
 case atStart => exact ⟨⟨[], []⟩, s, _, _, Lib.hid ⟨HR.out.1, HR.out.2.1, HR.out.2.2, by simp; have := HR.out.2.1; omega, .nil, .nil, fun k q => by simp [Value.ownBlock] at q, HQ3.out, HW.out.2.2.2.2, Fr.refl _ _⟩⟩
 case round =>
  obtain ⟨m, st, xv, yv, HS⟩ := hrel
  obtain ⟨Vr, hVr⟩ : ∃ V, V = wr := ⟨_, rfl⟩
  subst hVr
  obtain ⟨hst, hme, he, hlim, hD0, hB0, hdis, hq, bM, G⟩ := HS.out
  obtain ⟨xa, xc, rfl⟩ := hD0.shape
  obtain ⟨ya, yc, rfl⟩ := hB0.shape
  obtain ⟨f, rfl⟩ : ∃ f, gk = f + 1 := ⟨gk - 1, by omega⟩
  obtain ⟨p0, p1, p2, pf, pl⟩ := hq.facts
  obtain ⟨n, hn⟩ : ∃ n, L.length = n := ⟨_, rfl⟩
  have HN := Lib.hid hn
  have HRV := Lib.hid (And.intro hD0 (And.intro hB0 (And.intro hdis (And.intro hq (And.intro bM G)))))
  have hsV := G.size
  by_cases hlt : st.at_ < L.length
  · have HI := Lib.hid (fun w' (f : Fr Nil Vr w') => qis_any [100, 97, 116, 97] he (hq.fr f))
    have hi3 : (st.at_ : Int) < (n : Int) := by omega
    rw [hn] at p0
    rw [modF, if_pos ⟨he, hlt⟩] at hst
    have HL := Lib.hid (And.intro he (And.intro hlt (And.intro hme hlim)))
    clear HS hn p2 hlt hD0 hB0 hdis hq bM he hme hlim G
    cases hse : seesF L [100, 97, 116, 97] st with
    | true =>
     simp only [hse, if_true] at HI hst
     obtain ⟨⟨dd, s7⟩, hdd⟩ : ∃ r, dataF L (fuelP L) [] { st with at_ := st.at_ + 1 } = r := ⟨_, rfl⟩
     obtain ⟨s8, hs8⟩ : ∃ s8, needF L [59] s7 = s8 := ⟨_, rfl⟩
     rw [hdd] at hst
     simp only [hs8] at hst
     have hT : measP L s8 + dd.length < measP L st := by
      have h1 := data_len L (fuelP L) [] { st with at_ := st.at_ + 1 }
      rw [hdd] at h1
      have h2 := measP_lt HL.out.1 HL.out.2.1 (Goes.refl L { st with at_ := st.at_ + 1 })
      have h3 := measP_goes (need_goes (L := L) [59] s7)
      rw [hs8] at h3
      simp only [List.length_nil] at h1
      omega
     have hcall : ∀ w', QAt w' pb (.slice av L.length cv) L (st.at_ + 1) 0 → Calls Tryz.prog 39 #[.pointer (some ⟨pb, 0, none⟩)] w' (QEnds pb (.slice av L.length cv) L 0 w' (fun w'' v => RowsAt DAt 2 68 w'.heap.size w'' v dd) s8) := fun w' h' => by
      have h := qdata_any (s := { st with at_ := st.at_ + 1 }) HL.out.1 h'
      rw [hdd, hs8] at h
      exact h
     have HST := Lib.hid (And.intro hst (And.intro (show measP L s8 + 1 ≤ f from by have := HL.out.2.2.1; omega) (show (m.cons ++ dd).length + m.binds.length + measP L s8 ≤ 1000001 from by have := HL.out.2.2.2; rw [List.length_append]; omega)))
     have HC := Lib.hid hcall
     have hddl : m.cons.length + dd.length ≤ 1000001 := by have := HL.out.2.2.2; omega
     clear hst hT hdd hs8 hcall hse
     go_wp2_with fail
     go_quiet (fail)
     go_wp2_with fail
     refine (HI.out _ (by exact frA)).mono ?_
     rintro e w6 ⟨rfl, h6, f6⟩
     have F6 : Fr (fun b => b = pb) Vr w6 := Fr.comp (S := fun b => b = pb) (by exact frG) f6
     have hD6 := HRV.out.1.fr lawD F6 (fun b q => by have q' : b = pb := q; omega)
     have hB6 := HRV.out.2.1.fr (lawX lawB _) F6 (fun b q => by have q' : b = pb := q; omega)
     have bM6 := F6.blk HRV.out.2.2.2.2.1 (fun q => by have q' : Tm = pb := q; omega)
     have G6 := HRV.out.2.2.2.2.2.comp (F6.mono (fun _ _ q => .inl q))
     obtain ⟨cl, k1, k2, k3⟩ := hD6
     have hX1 : Hid (QAt w6 pb (.slice av L.length cv) L (st.at_ + 1) 0 ∧ Blk w6 Tm #[.slice xa m.cons.length xc, .slice ya m.binds.length yc] 26 ∧ w6.ownsRow B 68 2 (.slice xa m.cons.length xc) m.cons.length cl.flatten) := ⟨h6, bM6, k3⟩
     have HRX := Lib.hid (And.intro k1 (And.intro k2 (And.intro hB6 G6)))
     have M0 := bM6.cell 0
     simp at M0
     have Ml := bM6.lt
     have Mf := bM6.free
     have hs6 : B ≤ w6.heap.size := by have h := G6.size; rw [HW.out.2.2.1] at h; exact h
     clear f6 F6 h6 hB6 bM6 G6 k1 k2 k3 p0 p1 pf pl hsV hi3
     go_upto_region 4 with fail
     by_cases h80 : s8.e = 0
     · have hok : ∀ w', Fr Nil w6 w' → Calls Tryz.prog 39 #[.pointer (some ⟨pb, 0, none⟩)] w' fun e w'' => ∃ (da : Option Addr) (dc : Nat) (dl : List (List Value)), e = .returned (.slice da dd.length dc) ∧ dl.length = dd.length ∧ (∀ i (h : i < dl.length) (h' : i < dd.length), DAt (fun _ => False) w'' dl[i] dd[i]) ∧ Src w'' da dd.length 2 dl.flatten ∧ QAt w'' pb (.slice av L.length cv) L s8.at_ 0 ∧ Fr (fun b => b = pb) w6 w'' := fun w' f => (HC.out w' (hX1.out.1.fr f)).mono (fun e w'' q => by
        rcases q with ⟨_, v, rfl, hv, hq, f2⟩ | q
        · obtain ⟨dl, g1, g2, g3⟩ := hv
          obtain ⟨da, dc, rfl, hsrc⟩ := owns_src g3
          exact ⟨da, dc, dl, rfl, g1, fun i h h' => g2 i h h', hsrc, hq, (Fr.of_nil f).comp f2⟩
        · exact absurd h80 q.1)
       have HOk := Lib.hid hok
       clear hok
       go_region_law (first
        | (refine step_append_src (w := wa) rfl (.tmp 17) (.tmp 19) 23 rfl B 68 iD (.agg #[.string ⟨#[]⟩, .int .i64 0]) 2 24 Tryz.underlying23 hiD hzD0 hzD1 hzD2 rfl (by decide) (.slice xa m.cons.length xc) m.cons.length cl.flatten (by simp [Act.eval, Act.put]) (owns_frS hX1.out.2.2 HA.out.2.1 (fun q z y => by have y' : q = pb := y; have := (hX1.out.2.2.lt q z).1; omega)) da dd.length dc dl.flatten (by simp [Act.eval, Act.put]) HA.out.2.2.2.1 HA.out.2.2.2.2.2.2 (by unfold maxLen; omega) (by omega) (by omega) ?_; intro v' w9 hown9 hg9 hk9; have f9 : Fr (fun k => Value.ownBlock (.slice xa m.cons.length xc) = some k) wa w9 := Fr.grown (Fr.refl _ _) hg9 (fun k q _ => q); have bM9 := f9.blk HA.out.2.2.1 (fun z => by have := (hX1.out.2.2.lt _ z).1; omega); have M9 := bM9.cell 0; simp at M9; have Mf9 := bM9.free; have Ml9 := bM9.lt; obtain ⟨x9, y9, rfl⟩ := owns_shape hown9; have HO := Lib.hid (And.intro hown9 (And.intro f9 (And.intro hk9 bM9))); clear hown9 f9 hk9 bM9 hg9)
        | (go_simp; go_at_call 39; refine (HOk.out _ (by exact frA)).mono ?_; rintro e wa ⟨da, dc, dl, rfl, g1, g2, hsrc, ha, fa'⟩; have bMa := fa'.blk hX1.out.2.1 (fun q => by have q' : Tm = pb := q; omega); have Ma := bMa.cell 0; simp at Ma; have Mla := bMa.lt; have Mfa := bMa.free; have hsa := fa'.size; have HA := Lib.hid (And.intro ha (And.intro fa' (And.intro bMa (And.intro hsrc (And.intro g1 (And.intro g2 (one_flatD g1 g2))))))); clear ha fa' g1 g2 hsrc bMa))
       all_goals
        have hk9 : ∀ k, Value.ownBlock (.slice x9 (m.cons.length + dd.length) y9) = some k → Value.ownBlock (.slice xa m.cons.length xc) = some k ∨ wa.heap.size ≤ k := fun k q => by
         rcases HO.out.2.2.1 with z | z
         · exact .inl (z ▸ q)
         · rw [z] at q; cases q; exact .inr (Nat.le_refl _)
        have E := qdata_end (Te := Tm) HW.out.1 HW.out.2.1 hwTm HW.out.2.2.1 hTmB HRX.out.2.2.2 HRX.out.1 HRX.out.2.1 hX1.out.2.2 HRX.out.2.2.1 HRV.out.2.2.1 HA.out.1 HA.out.2.1 HA.out.2.2.2.2.1 HA.out.2.2.2.2.2.1 HO.out.1 HO.out.2.1 hk9 (wf := w9.setCell ⟨Tm, 0, none⟩ (.slice x9 (m.cons.length + dd.length) y9)) (by exact frG)
        have bMF : Blk (w9.setCell ⟨Tm, 0, none⟩ (.slice x9 (m.cons.length + dd.length) y9)) Tm #[.slice x9 (m.cons.length + dd.length) y9, .slice ya m.binds.length yc] 26 := by
         (unfold Blk; simp (disch := first | omega | (simp; done) | (simp; omega)) only [hp_drew, hp_drewN, hp_alloc, hp_other, hp_same, hp_new, upd_cells, Option.map_some, (HO.out.2.2.2).eq])
         simp
        go_wp2_with fail
        go_roundg f
        case rel => exact ⟨⟨m.cons ++ dd, m.binds⟩, s8, .slice x9 (m.cons.length + dd.length) y9, .slice ya m.binds.length yc, Lib.hid ⟨HST.out.1, HST.out.2.1, h80, HST.out.2.2, E.1, E.2.1, E.2.2.1, E.2.2.2.1, bMF, E.2.2.2.2⟩⟩
        case measure => omega
     · refine wp_region_held_drew (S := fun w' => w'.cell? ⟨Tm, 0, none⟩ = some (.slice xa m.cons.length xc)) (by kernel_rfl) M0 (fun hHeld => ?_)
       obtain ⟨W7, hW7⟩ : ∃ W, w6.drew = W := ⟨_, rfl⟩
       have f7 : Fr Nil w6 W7 := by rw [← hW7]; exact frA
       rw [hW7] at hHeld ⊢
       clear hW7
       refine held_take (i := 0) (v := ?_) rfl (by kernel_rfl) (by kernel_rfl) (by kernel_rfl) (fun _ _ _ h => h) (by rfl) (by assumption) ?_ ?_
       rotate_left
       · (intro w hSw; (try dsimp only at hSw); go_simp; try with_reducible rfl)
       try simp only [Act.put, List.setIfInBounds_toArray, List.set_cons_zero, List.set_cons_succ]
       refine held_take (i := 1) (v := ?_) rfl (by kernel_rfl) (by kernel_rfl) (by kernel_rfl) (fun _ _ _ h => h) (by rfl) (by assumption) ?_ ?_
       rotate_left
       · (intro w hSw; (try dsimp only at hSw); go_simp; try with_reducible rfl)
       try simp only [Act.put, List.setIfInBounds_toArray, List.set_cons_zero, List.set_cons_succ]
       refine held_take (i := 2) (v := ?_) rfl (by kernel_rfl) (by kernel_rfl) (by kernel_rfl) (fun _ _ _ h => h) (by rfl) (by assumption) ?_ ?_
       rotate_left
       · (intro w hSw; (try dsimp only at hSw); go_simp; try with_reducible rfl)
       try simp only [Act.put, List.setIfInBounds_toArray, List.set_cons_zero, List.set_cons_succ]
       refine held_one (i := 3) rfl (by kernel_rfl) (fun Kc hKc => ?_)
       go_simp
       refine (HC.out _ (hX1.out.1.fr f7)).mono ?_
       rintro r w8 (⟨q, _⟩ | hbr)
       · exact absurd q h80
       · have hb2 := hbr.back (((HW.out.2.1).trans HRX.out.2.2.2 (fun b hb q => by rcases q with q | q; exact q; omega)).via f7)
         obtain ⟨hne, rfl, _⟩ := hbr
         refine ⟨rfl, .inr ?_⟩
         rw [← HST.out.1, mod_bad0 hne]
         exact hb2
    | false =>
     simp only [hse, Bool.false_eq_true, if_false] at HI hst
     obtain ⟨⟨A1, s7⟩, hdd⟩ : ∃ r, bindF L (exprF L 200) st = r := ⟨_, rfl⟩
     obtain ⟨s8, hs8⟩ : ∃ s8, needF L [59] s7 = s8 := ⟨_, rfl⟩
     rw [hdd] at hst
     simp only [hs8] at hst
     have hT : measP L s8 < measP L st := by
      have h1 := bind_meas (L := L) (ex := exprF L 200) (expr_goes L 200) HL.out.1
      rw [hdd] at h1
      have h3 := measP_goes (need_goes (L := L) [59] s7)
      rw [hs8] at h3
      simp only at h1
      omega
     have hcall : ∀ w', QAt w' pb (.slice av L.length cv) L st.at_ 0 → Calls Tryz.prog 40 #[.pointer (some ⟨pb, 0, none⟩)] w' (QEnds pb (.slice av L.length cv) L 0 w' (fun w'' v => BVal (fun b => b < w'.heap.size) w'' v A1) s7) := fun w' h' => by
      have h := qbind_any (d := 200) (dp := 0) HEX.out HL.out.1 h'
      rw [hdd] at h
      exact h
     have hwn : ∀ w', s7.e = 0 → QAt w' pb (.slice av L.length cv) L s7.at_ 0 → Calls Tryz.prog 41 #[.pointer (some ⟨pb, 0, none⟩), .string ⟨#[59]⟩] w' (QEnds pb (.slice av L.length cv) L 0 w' (fun _ v => v = .tuple #[]) s8) := fun w' h0 h' => by
      rw [← hs8]
      exact qwant_any [59] h0 h'
     have hstop : s7.e ≠ 0 → s8 = s7 := fun q => by rw [← hs8, need_stop q]
     have HST := Lib.hid (And.intro hst (And.intro (show measP L s8 + 1 ≤ f from by have := HL.out.2.2.1; omega) (And.intro (show m.cons.length + (m.binds ++ [A1]).length + measP L s8 ≤ 1000001 from by have := HL.out.2.2.2; rw [List.length_append, List.length_singleton]; omega) hstop)))
     have HC := Lib.hid hcall
     have HWn := Lib.hid hwn
     have hddl : m.binds.length + 1 ≤ 1000001 := by have := HL.out.2.2.2; omega
     clear hst hT hdd hs8 hcall hse hwn hstop
     go_wp2_with fail
     go_quiet (fail)
     go_wp2_with fail
     refine (HI.out _ (by exact frA)).mono ?_
     rintro e w6 ⟨rfl, h6, f6⟩
     have F6 : Fr (fun b => b = pb) Vr w6 := Fr.comp (S := fun b => b = pb) (by exact frG) f6
     have hD6 := HRV.out.1.fr lawD F6 (fun b q => by have q' : b = pb := q; omega)
     have hB6 := HRV.out.2.1.fr (lawX lawB _) F6 (fun b q => by have q' : b = pb := q; omega)
     have bM6 := F6.blk HRV.out.2.2.2.2.1 (fun q => by have q' : Tm = pb := q; omega)
     have G6 := HRV.out.2.2.2.2.2.comp (F6.mono (fun _ _ q => .inl q))
     obtain ⟨cl, hcl⟩ := hB6.cells
     have hX1 : Hid (QAt w6 pb (.slice av L.length cv) L st.at_ 0 ∧ Blk w6 Tm #[.slice xa m.cons.length xc, .slice ya m.binds.length yc] 26 ∧ w6.ownsRow B 51 10 (.slice ya m.binds.length yc) m.binds.length cl) := ⟨h6, bM6, hcl⟩
     have HRX := Lib.hid (And.intro hD6 (And.intro hB6 G6))
     have M0 := bM6.cell 1
     simp at M0
     have Ml := bM6.lt
     have Mf := bM6.free
     have hs6 : B ≤ w6.heap.size := by have h := G6.size; rw [HW.out.2.2.1] at h; exact h
     clear f6 F6 h6 hB6 hD6 bM6 G6 hcl p0 p1 pf pl hsV hi3
     go_upto_region 5 with fail
     by_cases h70 : s7.e = 0
     · have hok : ∀ w', Fr Nil w6 w' → Calls Tryz.prog 40 #[.pointer (some ⟨pb, 0, none⟩)] w' fun e w'' => ∃ (bn : ByteArray) (pa : Option Addr) (pn pc k' : Nat) (nm' : ByteArray) (fl' : Bool) (bi' : Nat) (b0 : Option Addr) (m0 d0 : Nat) (b1 : Option Addr) (m1 d1 : Nat) (b2 : Option Addr) (m2 d2 : Nat) (b3 : Option Addr) (m3 d3 : Nat), e = .returned (.agg #[.string bn, .slice pa pn pc, .int .i64 (k' : Int), .string nm', .bool fl', .int .u64 (bi' : Int), .slice b0 m0 d0, .slice b1 m1 d1, .slice b2 m2 d2, .slice b3 m3 d3]) ∧ BAt (fun b => b < w6.heap.size) w'' [.string bn, .slice pa pn pc, .int .i64 (k' : Int), .string nm', .bool fl', .int .u64 (bi' : Int), .slice b0 m0 d0, .slice b1 m1 d1, .slice b2 m2 d2, .slice b3 m3 d3] A1 ∧ QAt w'' pb (.slice av L.length cv) L s7.at_ 0 ∧ Fr (fun b => b = pb) w6 w'' := fun w' f => (HC.out w' (hX1.out.1.fr f)).mono (fun e w'' q => by
        rcases q with ⟨_, v, rfl, hv, hq, f2⟩ | q
        · obtain ⟨bn, pa, pn, pc, k', nm', fl', bi', b0, m0, d0, b1, m1, d1, b2, m2, d2, b3, m3, d3, rfl, hAA⟩ := bval_form hv
          have z1 := f.size
          exact ⟨bn, pa, pn, pc, k', nm', fl', bi', b0, m0, d0, b1, m1, d1, b2, m2, d2, b3, m3, d3, rfl, lawB.mono hAA (fun b _ q => by have q' : b < w6.heap.size := q; show b < w'.heap.size; omega), hq, (Fr.of_nil f).comp f2⟩
        · exact absurd h70 q.1)
       have HOk := Lib.hid hok
       clear hok
       go_region_law (first
        | (refine step_push (w := wa) rfl (.tmp 23) (.tmp 26) 24 rfl B 51 i0 (.agg #[.string ⟨#[]⟩, .slice none 0 0, .int .i64 0, .string ⟨#[]⟩, .bool false, .int .u64 0, .slice none 0 0, .slice none 0 0, .slice none 0 0, .slice none 0 0]) 10 176 Tryz.underlying24 hi hz0 hz1 hz2 rfl (by decide) (.slice ya m.binds.length yc) (m.binds.length) cl (by simp [Act.eval, Act.put]) (owns_frS hX1.out.2.2 HA.out.2.1 (fun q z y => by have y' : q = pb := y; have := (hX1.out.2.2.lt q z).1; omega)) [.string bn, .slice pa pn pc, .int .i64 (k' : Int), .string nm', .bool fl', .int .u64 (bi' : Int), .slice b0 m0 d0, .slice b1 m1 d1, .slice b2 m2 d2, .slice b3 m3 d3] (by simp [Act.eval, Act.put]) rfl (by simp [Value.oneCell']) (by unfold maxLen; omega) (by omega) (by omega) ?_; intro v' w9 hown9 f9 hk9; have bM9 := f9.blk HA.out.2.2.1 (fun z => by have := (hX1.out.2.2.lt _ z).1; omega); have M9 := bM9.cell 1; simp at M9; have Mf9 := bM9.free; have Ml9 := bM9.lt; obtain ⟨x9, y9, rfl⟩ := owns_shape hown9; have HO := Lib.hid (And.intro hown9 (And.intro f9 (And.intro hk9 bM9))); clear hown9 f9 hk9 bM9)
        | (go_simp; go_at_call 40; refine (HOk.out _ (by exact frA)).mono ?_; rintro e wa ⟨bn, pa, pn, pc, k', nm', fl', bi', b0, m0, d0, b1, m1, d1, b2, m2, d2, b3, m3, d3, rfl, hAA, ha, fa'⟩; have bMa := fa'.blk hX1.out.2.1 (fun q => by have q' : Tm = pb := q; omega); have Ma := bMa.cell 1; simp at Ma; have Mla := bMa.lt; have Mfa := bMa.free; have hsa := fa'.size; have HA := Lib.hid (And.intro ha (And.intro fa' (And.intro bMa hAA))); clear ha fa' bMa hAA))
       all_goals
        have hD6 := HRX.out.1
        have hAA := HA.out.2.2.2
        have gf : Fr (fun b => b = Tm) w9 (w9.setCell ⟨Tm, 1, none⟩ (.slice x9 (m.binds.length + 1) y9)) := by exact frG
        have E := qrow_end0 (Te := Tm) (R := RX (fun b => Value.ownBlock (.slice xa m.cons.length xc) = some b) BAt) (lawX lawB _) HW.out.1 HW.out.2.1 hwTm HW.out.2.2.1 hTmB HRX.out.2.2 HRX.out.2.1 HA.out.1 HA.out.2.1 (lawB.mono hAA (fun b hb q => by rcases q with q | q; exact q; exact (hD6.own b q).2)) hX1.out.2.2 HO.out.1 HO.out.2.1 HO.out.2.2.1 gf
        have hlB := HRX.out.2.1.own
        have hDf := ((hD6.frD HA.out.2.1 (fun k q e => by have := (hD6.own k q).1; have e' : k = pb := e; omega)).frD HO.out.2.1 (fun k q e => HRV.out.2.2.1 k q e)).frD gf (fun k q e => by have := (hD6.own k q).1; have e' : k = Tm := e; omega)
        have hdis9 : ∀ k, Value.ownBlock (.slice xa m.cons.length xc) = some k → Value.ownBlock (.slice x9 (m.binds.length + 1) y9) ≠ some k := fun k q e => by
         rcases HO.out.2.2.1 k e with z | z
         · exact HRV.out.2.2.1 k q z
         · have := (hD6.own k q).2; omega
        have bMF : Blk (w9.setCell ⟨Tm, 1, none⟩ (.slice x9 (m.binds.length + 1) y9)) Tm #[.slice xa m.cons.length xc, .slice x9 (m.binds.length + 1) y9] 26 := by
         (unfold Blk; simp (disch := first | omega | (simp; done) | (simp; omega)) only [hp_drew, hp_drewN, hp_alloc, hp_other, hp_same, hp_new, upd_cells, Option.map_some, (HO.out.2.2.2).eq])
         simp
        have HE := Lib.hid (And.intro E (And.intro hDf (And.intro hdis9 bMF)))
        obtain ⟨W9, hW9⟩ : ∃ W9, w9.setCell ⟨Tm, 1, none⟩ (.slice x9 (m.binds.length + 1) y9) = W9 := ⟨_, rfl⟩
        rw [hW9] at HE ⊢
        clear E hDf hdis9 bMF gf hAA hW9 M0 Ml Mf Ma Mla Mfa M9 Mf9 Ml9 hlB hD6
        have l9 : B ≤ W9.heap.size := by have := HE.out.1.2.2.size; rw [HW.out.2.2.1] at this; exact this
        go_wp2_with fail
        refine (HWn.out _ h70 HE.out.1.2.1).mono ?_
        rintro e wb (⟨hs80, vb, rfl, rfl, hb, fb⟩ | hbr)
        · go_wp2_with fail
          go_roundg f
          case rel => exact ⟨⟨m.cons, m.binds ++ [A1]⟩, s8, .slice xa m.cons.length xc, .slice x9 (m.binds.length + 1) y9, Lib.hid ⟨HST.out.1, HST.out.2.1, hs80, HST.out.2.2.1, HE.out.2.1.fr lawD fb (fun b q => by have q' : b = pb := q; omega), HE.out.1.1.fr (lawX lawB _) fb (fun b q => by have q' : b = pb := q; omega), HE.out.2.2.1, hb, fb.blk HE.out.2.2.2 (fun q => by have q' : Tm = pb := q; omega), HE.out.1.2.2.comp (fb.mono (fun _ _ q => .inl q))⟩⟩
          case measure => omega
        · have hb2 := hbr.back ((HW.out.2.1).trans HE.out.1.2.2 (fun b hb q => by rcases q with q | q; exact q; omega))
          obtain ⟨hne, rfl, _⟩ := hbr
          refine ⟨rfl, .inr ?_⟩
          rw [← HST.out.1, mod_bad0 hne]
          exact hb2
     · refine wp_region_held_drew (S := fun w' => w'.cell? ⟨Tm, 1, none⟩ = some (.slice ya m.binds.length yc)) (by kernel_rfl) M0 (fun hHeld => ?_)
       obtain ⟨W7, hW7⟩ : ∃ W, w6.drew = W := ⟨_, rfl⟩
       have f7 : Fr Nil w6 W7 := by rw [← hW7]; exact frA
       rw [hW7] at hHeld ⊢
       clear hW7
       refine held_take (i := 0) (v := ?_) rfl (by kernel_rfl) (by kernel_rfl) (by kernel_rfl) (fun _ _ _ h => h) (by rfl) (by assumption) ?_ ?_
       rotate_left
       · (intro w hSw; (try dsimp only at hSw); go_simp; try with_reducible rfl)
       try simp only [Act.put, List.setIfInBounds_toArray, List.set_cons_zero, List.set_cons_succ]
       refine held_take (i := 1) (v := ?_) rfl (by kernel_rfl) (by kernel_rfl) (by kernel_rfl) (fun _ _ _ h => h) (by rfl) (by assumption) ?_ ?_
       rotate_left
       · (intro w hSw; (try dsimp only at hSw); go_simp; try with_reducible rfl)
       try simp only [Act.put, List.setIfInBounds_toArray, List.set_cons_zero, List.set_cons_succ]
       refine held_take (i := 2) (v := ?_) rfl (by kernel_rfl) (by kernel_rfl) (by kernel_rfl) (fun _ _ _ h => h) (by rfl) (by assumption) ?_ ?_
       rotate_left
       · (intro w hSw; (try dsimp only at hSw); go_simp; try with_reducible rfl)
       try simp only [Act.put, List.setIfInBounds_toArray, List.set_cons_zero, List.set_cons_succ]
       refine held_one (i := 3) rfl (by kernel_rfl) (fun Kc hKc => ?_)
       go_simp
       refine (HC.out _ (hX1.out.1.fr f7)).mono ?_
       rintro r w8 (⟨q, _⟩ | hbr)
       · exact absurd q h70
       · have hb2 := hbr.back (((HW.out.2.1).trans HRX.out.2.2 (fun b hb q => by rcases q with q | q; exact q; omega)).via f7)
         obtain ⟨hne, rfl, _⟩ := hbr
         refine ⟨rfl, .inr ?_⟩
         rw [← HST.out.1, HST.out.2.2.2 hne, mod_bad0 hne]
         exact hb2
  · have i3 : (st.at_ : Int) = (n : Int) := by have := hq.le; omega
    have d3 : ¬ (st.at_ : Int) < (n : Int) := by omega
    rw [hn] at p0
    rw [modF, if_neg (fun q => hlt q.2)] at hst
    subst hst
    have z0 := bM.cell 0
    have z1 := bM.cell 1
    simp at z0 z1
    have zf := bM.free
    have zl := bM.lt
    have bT := G.blk HW.out.2.2.2.1 (fun q => by rcases q with q | q <;> omega)
    have t0 := bT.cell 0
    have t1 := bT.cell 1
    simp at t0 t1
    have tf := bT.free
    have tl := bT.lt
    have fin : Hid (∀ wf, Fr (fun b => b = T) Vr wf → QEnds pb (.slice av L.length cv) L 0 w (fun w' v => MVal (fun b => b < w.heap.size) w' v m) st (.returned (.agg #[.slice xa m.cons.length xc, .slice ya m.binds.length yc])) wf) := Lib.hid (fun wf g => by
     have GG : Fr (fun b => b = pb) w wf := (HW.out.2.1.trans G (fun b hb q => by rcases q with q | q; exact q; omega)).trans g (fun b hb q => by have q' : b = T := q; omega)
     obtain ⟨cs, hc1, hc2⟩ := hD0.row lawD
     obtain ⟨bs, hb1, hb2⟩ := hB0.row (lawX lawB _)
     refine .inl ⟨he, _, rfl, ⟨_, _, cs, bs, rfl, (hc1.fr g (fun b q => by have q' : b = T := q; omega)).mono (by decide) (fun b _ q => by have q' : b < w.heap.size := q; show b < B; omega), hc2, (hb1.fr g (fun b q => by have q' : b = T := q; omega)).mono (by decide) (fun b _ q => by have q' : b < w.heap.size := q; show b < B; omega), fun i hi => ?_⟩, ⟨g.blk hq.blk (fun q => by have q' : pb = T := q; omega), HW.out.1.toks.fr GG (fun _ q => q), hq.le, hq.sz⟩, GG⟩
     exact lawB.mono (lawB.fr (hb2 i hi) g (fun b q => .inl (by have q' : b = T := q; omega))) (fun b _ q => .inl (by have q' : b < w.heap.size := q; omega)))
    clear HS hn p2 hlt hD0 hB0 hdis hq bM he hme hlim G bT HRV HR
    go_wp2_with fail
    go_quiet (fail)
    go_wp2
    (try simp only [Exit.inBlock, Exit.then])
    refine bodyPost_ret (v := .agg #[.slice xa m.cons.length xc, .slice ya m.binds.length yc]) (by simp [results, Tryz.results20, go_sem, *]) rfl ?_
    exact fin.out _ (by exact frG)
end
theorem begin_shape {ln : Nat} {t : TokV} (h : ShapeT ln t) (x : t.text = [108, 101, 116] ∨ t.text = [99, 97, 115, 101] ∨ t.text = [40] ∨ t.text = [92]) : t.kind = 1 ∨ t.kind = 2 ∨ t.kind = 3 ∨ t.kind = 5 ∨ t.kind = 6 ∨ t.kind = 7 := by
 cases h with
 | word c r h hr hl =>
  show kindF (c :: r) = 1 ∨ kindF (c :: r) = 2 ∨ kindF (c :: r) = 3 ∨ kindF (c :: r) = 5 ∨ kindF (c :: r) = 6 ∨ kindF (c :: r) = 7
  unfold kindF
  split
  · exact .inr (.inr (.inr (.inl rfl)))
  · split
    · exact .inr (.inr (.inr (.inr (.inr rfl))))
    · split
      · exact .inr (.inl rfl)
      · exact .inl rfl
 | num c r h hr he => exact .inr (.inr (.inl rfl))
 | plus r h hr he => exact .inr (.inr (.inl rfl))
 | minus r h hr he => exact .inr (.inr (.inl rfl))
 | op y h =>
  have hd : ∀ y ∈ opsL, ¬ (y = [108, 101, 116] ∨ y = [99, 97, 115, 101] ∨ y = [40] ∨ y = [92]) := by decide
  exact absurd x (hd y h)
 | punct y h => exact .inr (.inr (.inr (.inr (.inl rfl))))
theorem begin_lex (s : List UInt8) : BeginL (lexF s).toks := fun t ht x => by
 obtain ⟨ln, h⟩ := lexF_good s t ht
 exact begin_shape h x
theorem toks_row2 {base : Nat} {w : World} {v : Value} {l : List TokV} (h : ToksAt base w v l) : RowC (fun b => b < base) w v l.length 5 (fun i => tokCells (l.getD i (none_ 0))) := by
 refine RowC.of_own h (fun b q => q) (fun i hi => rfl) (fun i hi j u hj => ?_)
 have hj5 : j < 5 := (List.getElem?_eq_some_iff.1 hj).1
 rw [flatT_get8 l i hi j hj5, ← hj]
 simp [List.getD, hi]
theorem catch8_idle (p q r : Addr) (w : World) :
 CallsD Tryz.prog 19 #[.pointer (some p), .pointer (some q), .pointer (some r)] .returning w fun e u' w' => e = .returned (.tuple #[]) ∧ u' = .returning ∧ w' = w := by
 refine callsD_of_wpS Tryz.func19 rfl fun c₀ cs hu => ?_
 apply wpS_seq
 apply wpS_region
 simp [wpOpsS, go_sem, recoverD, hu, Tryz.ntmps19, Exit.thenS]
 apply wpS_seq
 apply wpS_region
 simp [wpOpsS, go_sem, Exit.thenS]
 refine wpS_cond (t := false) (by simp [Act.eval, Array.replicate]) ?_
 simp only [Bool.false_eq_true, if_false]
 refine wpS_of_wp (wp_skip ?_)
 cases c₀
 simp_all [bodyPostS, results, Tryz.results19]
set_option maxHeartbeats 1000000 in
theorem catch8_stop {Tm Te Tl : Nat} {s : PS} {m0 m1 e0 l0 : Value} {older : List PanicEntry} {w : World}
 (bM : Blk w Tm #[m0, m1] 26) (bE : Blk w Te #[e0] 27) (bL : Blk w Tl #[l0] 3) (h1 : Tm < Te) (h2 : Te < Tl) :
 CallsD Tryz.prog 19 #[.pointer (some ⟨Tm, 0, none⟩), .pointer (some ⟨Te, 0, none⟩), .pointer (some ⟨Tl, 0, none⟩)] (.panicking ({ v := stopV s, recovered := false } :: older)) w fun e u' w' =>
  e = .returned (.tuple #[]) ∧ u' = .panicking ({ v := stopV s, recovered := true } :: older) ∧ Blk w' Tm #[.slice none 0 0, .slice none 0 0] 26 ∧ Blk w' Te #[.int .i64 (s.e : Int)] 27 ∧ Blk w' Tl #[.int .i64 (s.line : Int)] 3 ∧ Fr (fun b => b = Tm ∨ b = Te ∨ b = Tl) w w' := by
 refine callsD_of_wpS Tryz.func19 rfl fun c₀ cs hu => ?_
 apply wpS_seq
 apply wpS_region
 simp [wpOpsS, go_sem, recoverD, hu, Tryz.ntmps19, Exit.thenS, stopV]
 apply wpS_seq
 apply wpS_region
 simp [wpOpsS, go_sem, Exit.thenS]
 refine wpS_cond (t := true) (by simp [Act.eval, Array.replicate]) ?_
 simp only [if_true]
 refine wpS_of_wp ?_
 have m0' := bM.cell 0
 have m1' := bM.cell 1
 have e0' := bE.cell 0
 have l0' := bL.cell 0
 simp at m0' m1' e0' l0'
 have mf := bM.free
 have ef := bE.free
 have lf := bL.free
 have ml := bM.lt
 have el := bE.lt
 have ll := bL.lt
 have HB := Lib.hid (And.intro bM (And.intro bE bL))
 have HU := Lib.hid hu
 clear bM bE bL hu
 simp only [Array.replicate_succ, Array.replicate_zero, List.push_toArray, List.append_toArray, List.nil_append, List.cons_append, List.setIfInBounds_toArray, List.set_cons_zero, List.set_cons_succ]
 have hta : ∀ w : World, (Instr.typeAssert (.iface 58 (.agg #[.int .i64 (s.e : Int), .int .i64 (s.line : Int)])) 20 58 true).run Tryz.prog w = .ok (.tuple #[.agg #[.int .i64 (s.e : Int), .int .i64 (s.line : Int)], .bool true]) w := fun _ => by kernel_rfl
 have n1 : Tm ≠ Te := by omega
 have n2 : Te ≠ Tl := by omega
 have n3 : Tm ≠ Tl := by omega
 go_wp2_with fail
 go_region
 all_goals
  go_wp2
  (try simp only [Exit.inBlock, Exit.then])
  refine ⟨rfl, _, rfl, .tuple #[], by simp [results, Tryz.results19, go_sem], rfl, rfl, ?_, ?_, ?_, ?_⟩
  · exact blk3 HB.out.1 HB.out.2.1 HB.out.2.2
    try simp
  · exact blk3 HB.out.1 HB.out.2.1 HB.out.2.2
    try simp
  · exact blk3 HB.out.1 HB.out.2.1 HB.out.2.2
    try simp
  · (repeat (first | (with_reducible exact Fr.refl _ _) | (with_reducible refine Fr.drew ?_) | (with_reducible refine Fr.alloc ?_ _) | (with_reducible refine Fr.set ?_ _ _ (fun _ => by simp))))
theorem qparse_any (s : ByteArray) (w : World) (hW : LibW w) (hs : s.size ≤ 140737488355328) :
 Calls Tryz.prog 11 #[.string s] w fun r w' => ∃ v, r = .returned (.tuple #[v, .int .i64 (parseF s.data.toList).2.1, .int .i64 ((parseF s.data.toList).2.2 : Int)]) ∧ MVal (fun b => b < w.heap.size) w' v (parseF s.data.toList).1 ∧ Fr Nil w w' := by
 obtain ⟨X, hX⟩ : ∃ X, lexF s.data.toList = X := ⟨_, rfl⟩
 have hBg := begin_lex s.data.toList
 have hsz := lexF_size8 s.data.toList
 rw [hX] at hBg hsz
 obtain ⟨⟨rm, re, rl⟩, hR⟩ : ∃ x, parseF s.data.toList = x := ⟨_, rfl⟩
 rw [hR]
 show Calls _ _ _ _ fun r w' => ∃ v, r = .returned (.tuple #[v, .int .i64 re, .int .i64 (rl : Int)]) ∧ MVal (fun b => b < w.heap.size) w' v rm ∧ Fr Nil w w'
 unfold parseF tokensF at hR
 rw [hX] at hR
 obtain ⟨⟨mm, ms⟩, hM⟩ : ∃ x, modF X.toks (fuelP X.toks) ⟨[], []⟩ ⟨0, 0, 0⟩ = x := ⟨_, rfl⟩
 simp only [hM] at hR
 obtain ⟨T, hT⟩ : ∃ T, w.heap.size = T := ⟨_, rfl⟩
 obtain ⟨Te, hTe⟩ : ∃ Te, T + 1 = Te := ⟨_, rfl⟩
 obtain ⟨Tl, hTl⟩ : ∃ Tl, Te + 1 = Tl := ⟨_, rfl⟩
 obtain ⟨W1, hW1⟩ : ∃ W1, w.alloc (.cells #[.slice none 0 0, .slice none 0 0] 26) = W1 := ⟨_, rfl⟩
 obtain ⟨W2, hW2⟩ : ∃ W2, W1.alloc (.cells #[.int .i64 0] 27) = W2 := ⟨_, rfl⟩
 obtain ⟨W3, hW3⟩ : ∃ W3, W2.alloc (.cells #[.int .i64 0] 3) = W3 := ⟨_, rfl⟩
 have f1 : Fr Nil w W1 := by rw [← hW1]; exact frA
 have f2 : Fr Nil W1 W2 := by rw [← hW2]; exact frA
 have f3 : Fr Nil W2 W3 := by rw [← hW3]; exact frA
 have hs1 : W1.heap.size = Te := by rw [← hW1, ← hTe, ← hT]; simp
 have hs2 : W2.heap.size = Tl := by rw [← hW2, ← hTl, ← hs1]; simp
 have bM : Blk W3 T #[.slice none 0 0, .slice none 0 0] 26 := (f2.comp f3).blk (by rw [← hW1, ← hT]; exact Blk.new _ _ _) (fun q => q)
 have bE : Blk W3 Te #[.int .i64 0] 27 := f3.blk (by rw [← hW2, ← hs1]; exact Blk.new _ _ _) (fun q => q)
 have bL : Blk W3 Tl #[.int .i64 0] 3 := by rw [← hW3, ← hs2]; exact Blk.new _ _ _
 have F3 := (f1.comp f2).comp f3
 have hlx := lex_any s W3 (hW.fr F3) (Nat.le_trans hs (by decide))
 rw [hX] at hlx
 have hTTe : T < Te := by omega
 have hTeTl : Te < Tl := by omega
 have hwT : w.heap.size ≤ T := Nat.le_of_eq hT
 obtain ⟨xe, hxe⟩ : ∃ e, X.err = e := ⟨_, rfl⟩
 obtain ⟨xl, hxl⟩ : ∃ e, X.line = e := ⟨_, rfl⟩
 rw [hxe, hxl] at hR hlx
 have HX := Lib.hid (And.intro hBg (And.intro hsz hM))
 have HR := Lib.hid hR
 have HL := Lib.hid hlx
 have H3 := Lib.hid (And.intro F3 (And.intro bM (And.intro bE bL)))
 have HWW := Lib.hid (And.intro hT (And.intro hTe (And.intro hTl (And.intro hW1 (And.intro hW2 hW3)))))
 have hl3 : Tl < W3.heap.size := bL.lt
 clear hBg hsz hM hR hlx F3 bM bE bL hxe hxl hX f1 f2 f3 hs1 hs2 hT hTe hTl hW1 hW2 hW3 hW
 have hmf : ∀ (fn : Fn) (first cap : Array Value) (w : World), (Instr.makeFunc fn first cap).run Tryz.prog w = .ok (.func fn first cap) w := fun _ _ _ _ => rfl
 go_enter_defers Tryz.func11, Tryz.ntmps11
 go_wp2_with fail
 try rw [HWW.out.1]
 try rw [HWW.out.2.1]
 try rw [HWW.out.2.2.1]
 try rw [HWW.out.2.2.2.1]
 try rw [HWW.out.2.2.2.2.1]
 try rw [HWW.out.2.2.2.2.2]
 clear HWW
 refine HL.out.mono ?_
 rintro e w4 ⟨v, rfl, ht, f4⟩
 have bM4 := f4.blk H3.out.2.1 (fun q => q)
 have bE4 := f4.blk H3.out.2.2.1 (fun q => q)
 have bL4 := f4.blk H3.out.2.2.2 (fun q => q)
 have hrow := toks_row2 ht
 obtain ⟨va, vc, rfl⟩ := hrow.shape
 have m0 := bM4.cell 0
 have m1 := bM4.cell 1
 have e0 := bE4.cell 0
 have l0 := bL4.cell 0
 simp at m0 m1 e0 l0
 have mf := bM4.free
 have ef := bE4.free
 have lf := bL4.free
 have ml := bM4.lt
 have el := bE4.lt
 have ll := bL4.lt
 have n1 : T ≠ Te := by omega
 have n2 : Te ≠ Tl := by omega
 have n3 : T ≠ Tl := by omega
 obtain ⟨W5, hW5⟩ : ∃ W5, (w4.setCell ⟨Te, 0, none⟩ (.int .i64 xe)).setCell ⟨Tl, 0, none⟩ (.int .i64 (xl : Int)) = W5 := ⟨_, rfl⟩
 have f5 : Fr (fun b => b = T ∨ b = Te ∨ b = Tl) w4 W5 := by rw [← hW5]; (repeat (first | (with_reducible exact Fr.refl _ _) | (with_reducible refine Fr.drew ?_) | (with_reducible refine Fr.alloc ?_ _) | (with_reducible refine Fr.set ?_ _ _ (fun _ => by simp))))
 have bM5 : Blk W5 T #[.slice none 0 0, .slice none 0 0] 26 := by
  rw [← hW5]
  exact blk3 bM4 bE4 bL4
 have bE5 : Blk W5 Te #[.int .i64 xe] 27 := by
  rw [← hW5]
  exact blk3 bM4 bE4 bL4
  try simp
 have bL5 : Blk W5 Tl #[.int .i64 (xl : Int)] 3 := by
  rw [← hW5]
  exact blk3 bM4 bE4 bL4
  try simp
 have G5 : Fr (fun b => b = T ∨ b = Te ∨ b = Tl) W3 W5 := Fr.trans (Fr.of_nil (S := fun b => b = T ∨ b = Te ∨ b = Tl) f4) f5 (fun _ _ q => q)
 have H5 := Lib.hid (And.intro hrow (And.intro f5 (And.intro bM5 (And.intro bE5 (And.intro bL5 G5)))))
 go_upto_region 2 with fail
 try rw [hW5]
 clear hW5 m0 m1 e0 l0 mf ef lf ml el ll f5 G5 bM4 bE4 bL4 ht hrow
 have m0 := bM5.cell 0
 have m1 := bM5.cell 1
 have e0 := bE5.cell 0
 have l0 := bL5.cell 0
 simp at m0 m1 e0 l0
 have mf := bM5.free
 have ef := bE5.free
 have lf := bL5.free
 have ml := bM5.lt
 have el := bE5.lt
 have ll := bL5.lt
 clear bM5 bE5 bL5
 have h5s := H5.out.2.2.2.2.2.size
 by_cases he : xe = 0
 · subst he
   have hR := HR.out
   rw [if_neg (by simp)] at hR
   have HRR := Lib.hid hR
   clear hR HR
   obtain ⟨pb, hpb⟩ : ∃ pb, W5.heap.size = pb := ⟨_, rfl⟩
   obtain ⟨W6, hW6⟩ : ∃ W6, W5.alloc (.cells #[.slice va X.toks.length vc, .int .i64 0, .int .i64 0] 62) = W6 := ⟨_, rfl⟩
   have f6 : Fr Nil W5 W6 := by rw [← hW6]; exact frA
   have bP : Blk W6 pb #[.slice va X.toks.length vc, .int .i64 0, .int .i64 0] 62 := by rw [← hW6, ← hpb]; exact Blk.new _ _ _
   have hQ : QAt W6 pb (.slice va X.toks.length vc) X.toks 0 0 := ⟨bP, ((H5.out.1.fr H5.out.2.1 (fun b q => by show b < W3.heap.size; rcases q with q | q | q <;> omega)).mono (Y := fun b => b = pb) (by decide) (fun b hb q => by have q' : b = pb := q; omega)).fr f6 (fun _ q => q.elim), Nat.zero_le _, by have := HX.out.2.1; omega⟩
   have hcall := qmodule_any (s := ⟨0, 0, 0⟩) HX.out.1 rfl hQ
   rw [HX.out.2.2] at hcall
   have HC := Lib.hid hcall
   have H6 := Lib.hid (And.intro (f6.blk H5.out.2.2.1 (fun q => q)) (And.intro (f6.blk H5.out.2.2.2.1 (fun q => q)) (And.intro (f6.blk H5.out.2.2.2.2.1 (fun q => q)) (H5.out.2.2.2.2.2.comp (Fr.of_nil f6)))))
   have HWP := Lib.hid (And.intro hpb hW6)
   have hTpb : Tl < pb := by omega
   have h3pb : W3.heap.size ≤ pb := by omega
   have hpl : pb < W6.heap.size := bP.lt
   clear hcall hQ bP f6 hpb hW6
   go_wp2_with fail
   try rw [HWP.out.1]
   try rw [HWP.out.2]
   clear HWP m0 m1 e0 l0 mf ef lf ml el ll
   refine HC.out.mono ?_
   rintro e w7 (⟨hs0, vm, rfl, hmv, hq7, f7⟩ | hbr)
   · obtain ⟨mc, mb, cs, bs, rfl, r1, r2, r3, r4⟩ := hmv
     obtain ⟨xa, xc, rfl⟩ := r1.shape
     obtain ⟨ya, yc, rfl⟩ := r3.shape
     have bM7 := f7.blk H6.out.1 (fun q => by have q' : T = pb := q; omega)
     have bE7 := f7.blk H6.out.2.1 (fun q => by have q' : Te = pb := q; omega)
     have bL7 := f7.blk H6.out.2.2.1 (fun q => by have q' : Tl = pb := q; omega)
     have m0 := bM7.cell 0
     have m1 := bM7.cell 1
     have e0 := bE7.cell 0
     have l0 := bL7.cell 0
     simp at m0 m1 e0 l0
     have mf := bM7.free
     have ef := bE7.free
     have lf := bL7.free
     have ml := bM7.lt
     have el := bE7.lt
     have ll := bL7.lt
     obtain ⟨W8, hW8⟩ : ∃ W8, (((w7.setCell ⟨T, 0, none⟩ (.slice xa mm.cons.length xc)).setCell ⟨T, 1, none⟩ (.slice ya mm.binds.length yc)).setCell ⟨Te, 0, none⟩ (.int .i64 0)).setCell ⟨Tl, 0, none⟩ (.int .i64 0) = W8 := ⟨_, rfl⟩
     have f8 : Fr (fun b => b = T ∨ b = Te ∨ b = Tl) w7 W8 := by rw [← hW8]; (repeat (first | (with_reducible exact Fr.refl _ _) | (with_reducible refine Fr.drew ?_) | (with_reducible refine Fr.alloc ?_ _) | (with_reducible refine Fr.set ?_ _ _ (fun _ => by simp))))
     have bM8 : Blk W8 T #[.slice xa mm.cons.length xc, .slice ya mm.binds.length yc] 26 := by
      rw [← hW8]
      exact blk3 bM7 bE7 bL7
      try simp
     have bE8 : Blk W8 Te #[.int .i64 0] 27 := by
      rw [← hW8]
      exact blk3 bM7 bE7 bL7
      try simp
     have bL8 : Blk W8 Tl #[.int .i64 0] 3 := by
      rw [← hW8]
      exact blk3 bM7 bE7 bL7
      try simp
     have HF := Lib.hid (And.intro f7 (And.intro f8 (And.intro r1 (And.intro r2 (And.intro r3 r4)))))
     clear f7 f8 r1 r2 r3 r4 bM7 bE7 bL7 hq7
     go_wp2
     try rw [hW8]
     clear hW8 m0 m1 e0 l0 mf ef lf ml el ll
     have m0 := bM8.cell 0
     have m1 := bM8.cell 1
     have e0 := bE8.cell 0
     have l0 := bL8.cell 0
     simp at m0 m1 e0 l0
     refine leaves_cons (f := 19) (args := #[.pointer (some ⟨T, 0, none⟩), .pointer (some ⟨Te, 0, none⟩), .pointer (some ⟨Tl, 0, none⟩)]) (by simp) (by simp [go_sem]) ?_
     refine (catch8_idle _ _ _ _).mono ?_
     rintro r u' w9 ⟨rfl, rfl, rfl⟩
     refine ⟨.tuple #[.agg #[.slice xa mm.cons.length xc, .slice ya mm.binds.length yc], .int .i64 0, .int .i64 0], by simp [results, Tryz.results11, go_sem, *], ?_⟩
     have hR := HRR.out
     rw [if_neg (fun q => q hs0)] at hR
     cases hR
     have F78 : Fr (fun b => b = pb ∨ b = T ∨ b = Te ∨ b = Tl) W6 w9 := (HF.out.1.mono (fun _ _ q => .inl q)).comp (HF.out.2.1.mono (fun _ _ q => .inr q))
     have FF : Fr Nil w w9 := (H3.out.1.trans (H6.out.2.2.2.trans F78 (fun b hb q => by rcases q with q | q; omega; exact q)) (fun b hb q => by rcases q with q | q | q <;> omega))
     have h6s := H6.out.2.2.2.size
     have g8 := HF.out.2.1
     have hlow : ∀ b, (b = T ∨ b = Te ∨ b = Tl) → b < W6.heap.size := fun b q => by rcases q with q | q | q <;> omega
     refine ⟨_, rfl, ⟨_, _, cs, bs, rfl, (HF.out.2.2.1.fr g8 hlow).mono (by decide) (fun b _ q => by have q' : b < w.heap.size := q; show b < W6.heap.size; omega), HF.out.2.2.2.1, (HF.out.2.2.2.2.1.fr g8 hlow).mono (by decide) (fun b _ q => by have q' : b < w.heap.size := q; show b < W6.heap.size; omega), fun i hi => ?_⟩, FF⟩
     exact lawB.mono (lawB.fr (HF.out.2.2.2.2.2 i hi) g8 hlow) (fun b _ q => by have q' : b < w.heap.size := q; show b < W6.heap.size; omega)
   · obtain ⟨hne, rfl, ⟨xa, xd, hbd⟩, f7⟩ := hbr
     have bM7 := f7.blk H6.out.1 (fun q => by have q' : T = pb := q; omega)
     have bE7 := f7.blk H6.out.2.1 (fun q => by have q' : Te = pb := q; omega)
     have bL7 := f7.blk H6.out.2.2.1 (fun q => by have q' : Tl = pb := q; omega)
     have HF := Lib.hid f7
     clear f7 hbd
     refine leaves_cons (f := 19) (args := #[.pointer (some ⟨T, 0, none⟩), .pointer (some ⟨Te, 0, none⟩), .pointer (some ⟨Tl, 0, none⟩)]) (by simp) (by simp [go_sem]) ?_
     refine (catch8_stop (s := ms) bM7 bE7 bL7 hTTe hTeTl).mono ?_
     rintro r u' w9 ⟨rfl, rfl, bM9, bE9, bL9, f9⟩
     have m0 := bM9.cell 0
     have m1 := bM9.cell 1
     have e0 := bE9.cell 0
     have l0 := bL9.cell 0
     simp at m0 m1 e0 l0
     refine ⟨.tuple #[.agg #[.slice none 0 0, .slice none 0 0], .int .i64 (ms.e : Int), .int .i64 (ms.line : Int)], by simp [results, Tryz.results11, go_sem, *], ?_⟩
     have hR := HRR.out
     rw [if_pos hne] at hR
     cases hR
     have F79 : Fr (fun b => b = pb ∨ b = T ∨ b = Te ∨ b = Tl) W6 w9 := (HF.out.mono (fun _ _ q => .inl q)).comp (f9.mono (fun _ _ q => .inr q))
     have FF : Fr Nil w w9 := (H3.out.1.trans (H6.out.2.2.2.trans F79 (fun b hb q => by rcases q with q | q; omega; exact q)) (fun b hb q => by rcases q with q | q | q <;> omega))
     exact ⟨_, rfl, ⟨_, _, fun _ => [], fun _ => [], rfl, .nil, fun i h => absurd h (Nat.not_lt_zero i), .nil, fun i h => absurd h (Nat.not_lt_zero i)⟩, FF⟩
 · have hR := HR.out
   rw [if_pos he] at hR
   cases hR
   have d1 : (re == 0) = false := by simpa using he
   have fin : Hid (∀ wf, Fr (fun b => b = T ∨ b = Te ∨ b = Tl) W5 wf → ∃ v, Ending.returned (.tuple #[.agg #[.slice none 0 0, .slice none 0 0], .int .i64 re, .int .i64 (rl : Int)]) = .returned (.tuple #[v, .int .i64 re, .int .i64 (rl : Int)]) ∧ MVal (fun b => b < w.heap.size) wf v ⟨[], []⟩ ∧ Fr Nil w wf) := Lib.hid (fun wf g => by
    have FF : Fr Nil w wf := H3.out.1.trans (H5.out.2.2.2.2.2.comp g) (fun b hb q => by rcases q with q | q | q <;> omega)
    exact ⟨_, rfl, ⟨_, _, fun _ => [], fun _ => [], rfl, .nil, fun i h => absurd h (Nat.not_lt_zero i), .nil, fun i h => absurd h (Nat.not_lt_zero i)⟩, FF⟩)
   clear HX HR
   go_wp2_with fail
   go_region
   all_goals
    go_wp2
    (try simp only [Exit.inBlock, Exit.then])
    refine ⟨.tuple #[.agg #[.slice none 0 0, .slice none 0 0], .int .i64 re, .int .i64 (rl : Int)], by simp [results, Tryz.results11, go_sem, *], ?_⟩
    exact fin.out _ (by (repeat (first | (with_reducible exact Fr.refl _ _) | (with_reducible refine Fr.drew ?_) | (with_reducible refine Fr.alloc ?_ _) | (with_reducible refine Fr.set ?_ _ _ (fun _ => by simp)))))
end Go.Proofs.YtlnmicddobgppaaGreatDoor
