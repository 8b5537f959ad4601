/-
  Constructors that are declared (layer 8). No conditions.
-/
import Derived.Deep.RegionHeld3
import Derived.Test.YtlnmicddobgppaaGreatDoorNnG
import Derived.Test.YtlnmicddobgppaaGreatDoorNnA
namespace Go.Proofs.YtlnmicddobgppaaGreatDoor
set_option maxRecDepth 100000
set_option linter.unusedSimpArgs false
set_option linter.unusedVariables false
open Go.RowKit
def DAt (X : Nat → Prop) (w : World) (c : List Value) (a : List UInt8 × Nat) : Prop := c = [.string ⟨a.1.toArray⟩, .int .i64 (a.2 : Int)]
theorem lawD : ElemLaw DAt 2 := ⟨fun h _ _ => h, fun h _ => h, fun h => by rw [h]; rfl⟩
theorem run_num1 (a b : Value) (w : World) : (Instr.field 39 (.agg #[a, b]) 1).run Tryz.prog w = .ok b w := by kernel_rfl
theorem measP_goes {L : List TokV} {s t : PS} (h : Goes L s t) : measP L t ≤ measP L s := by
 have h1 := h.up
 have h2 := h.er
 unfold measP
 by_cases he : s.e = 0
 · rw [if_pos he]
   split <;> omega
 · rw [if_neg (h2 he)]
   omega
theorem data_goes (L : List TokV) (s1 : PS) : Goes L s1 (if kindP L s1 = 3 then (if (L[s1.at_]?.getD (none_ 0)).flt = true ∨ 24 < (L[s1.at_]?.getD (none_ 0)).bits then faultF L 1 s1 else s1) else s1) := by
 split
 · split
   · exact (fault_goes (by decide)).1
   · exact Goes.refl _ _
 · exact Goes.refl _ _
theorem data_bits (L : List TokV) (s1 : PS) : (tokenF L 3 (if kindP L s1 = 3 then (if (L[s1.at_]?.getD (none_ 0)).flt = true ∨ 24 < (L[s1.at_]?.getD (none_ 0)).bits then faultF L 1 s1 else s1) else s1)).1.bits ≤ 24 := by
 by_cases hk : kindP L s1 = 3
 · rw [if_pos hk]
   by_cases hb : (L[s1.at_]?.getD (none_ 0)).flt = true ∨ 24 < (L[s1.at_]?.getD (none_ 0)).bits
   · rw [if_pos hb]
     unfold tokenF
     rw [if_neg (fun q => (fault_goes (L := L) (e := 1) (s := s1) (by decide)).2.1 q.1)]
     exact Nat.zero_le _
   · rw [if_neg hb]
     unfold tokenF
     split
     · have : ¬ 24 < (L[s1.at_]?.getD (none_ 0)).bits := fun q => hb (.inr q)
       simp only
       omega
     · exact Nat.zero_le _
 · rw [if_neg hk]
   unfold tokenF
   rw [if_neg (fun q => hk q.2)]
   exact Nat.zero_le _
section
variable {w : World} {pb : Nat} {vT : Value} {L : List TokV} {s : PS}
set_option maxHeartbeats 8000000 in
theorem pdata_any (h : PAt w pb vT L s) :
 Calls Tryz.prog 26 #[.pointer (some ⟨pb, 0, none⟩)] w fun r w' => ∃ v, r = .returned v ∧ RowsAt DAt 2 68 w.heap.size w' v (dataF L (fuelP L) [] s).1 ∧ PAt w' pb vT L (needF L [59] (dataF L (fuelP L) [] s).2) ∧ Fr (fun b => b = pb) w w' := by
 obtain ⟨i0, hi, hz0, hz1, hz2⟩ := info_parts infoD
 obtain ⟨R, hR⟩ : ∃ R, dataF L (fuelP L) [] s = R := ⟨_, rfl⟩
 rw [hR]
 obtain ⟨F, hF⟩ : ∃ F, fuelP L = F := ⟨_, rfl⟩
 have hm := measP_le L s
 rw [hF] at hR hm
 have hF2 : F ≤ 1000002 := by have := h.sz; unfold fuelP at hF; omega
 have hpl := h.blk.lt
 have hf1 := run_tok1
 have hf2 := run_tok2
 have hf3 := run_num1
 have HP := Lib.hid (And.intro h (And.intro hR hm))
 clear h hR hm hF
 go_enter Tryz.func26, Tryz.ntmps26
 go_wp2_with fail
 go_loopg [3] F (fun g vo wr => ∃ (acc : List (List UInt8 × Nat)) (st : PS) (v : Value), v = vo ∧ acc.length + g = F ∧ Hid (dataF L g acc st = R ∧ measP L st + 1 ≤ g ∧ RowsAt DAt 2 68 w.heap.size wr v acc ∧ PAt wr pb vT L st) ∧ Fr (fun b => b = pb) w wr)
 case atStart => exact ⟨[], s, _, rfl, by simp, Lib.hid ⟨HP.out.2.1, HP.out.2.2, .nil, HP.out.1⟩, Fr.refl _ _⟩
 case round =>
  obtain ⟨acc, st, v, rfl, hg, HS, hw⟩ := hrel
  obtain ⟨p0, p1, p2, p3, pf, pl⟩ := HS.out.2.2.2.facts
  obtain ⟨f, hf⟩ : ∃ f, gk = f + 1 := ⟨gk - 1, by have := HS.out.2.1; omega⟩
  obtain ⟨cc, hcc⟩ : ∃ cc, decide (st.e = 0 ∧ kindP L st = 2) = cc := ⟨_, rfl⟩
  have HCC := Lib.hid hcc
  clear hcc
  go_upto_region 2 with fail
  go_cut [15] (fun sv wx => sv = .bool cc ∧ Fr Nil wr wx)
  case first =>
   by_cases he : st.e = 0
   · have i2 : (st.e : Int) = 0 := by omega
     rw [i2] at p2
     have HK := Lib.hid (pkind_any HS.out.2.2.2)
     have hcc := HCC.out
     obtain ⟨kd, hkd⟩ : ∃ kd, kindP L st = kd := ⟨_, rfl⟩
     rw [hkd] at HK hcc
     by_cases hk : kd = 2
     · rw [decide_eq_true ⟨he, hk⟩] at hcc
       subst hcc hk
       clear i2
       go_wp2_with fail
       refine HK.out.mono ?_
       rintro e w5 ⟨rfl, f5⟩
       go_wp2
       go_meet
       exact ⟨by simp, by exact frA⟩
     · rw [decide_eq_false (fun q => hk q.2)] at hcc
       subst hcc
       have d1 := decide_eq_false hk
       have d2 : (kd == 2) = false := by simpa using hk
       clear i2
       go_wp2_with fail
       refine HK.out.mono ?_
       rintro e w5 ⟨rfl, f5⟩
       go_wp2
       go_meet
       exact ⟨by simp [d2], by exact frA⟩
   · have i2 : ¬ (st.e : Int) = 0 := by omega
     have d3 : ((st.e : Int) == 0) = false := by simpa using i2
     have hcc := HCC.out
     rw [decide_eq_false (fun q => he q.1)] at hcc
     subst hcc
     go_wp2
     go_meet
     exact ⟨by simp [d3], by exact frA⟩
  case rest =>
   obtain ⟨rfl, f5⟩ := hcut
   obtain ⟨w5, hw5⟩ : ∃ w5, wc = w5 := ⟨_, rfl⟩
   rw [hw5] at f5 ⊢
   clear hw5 p0 p1 p2 p3 pf pl
   have h5 := HS.out.2.2.2.fr f5
   have hR5 := HS.out.2.2.1.fr lawD f5 (fun _ q => q.elim)
   have F5 := hw.via f5
   cases cc with
   | false =>
    have hno := of_decide_eq_false HCC.out
    have hst := HS.out.1
    rw [hf] at hst
    unfold dataF at hst
    rw [if_neg hno] at hst
    subst hst
    have HR5 := Lib.hid (And.intro hR5 F5)
    clear hno HS hR5 F5
    go_wp2_with fail
    refine (pneed_any [59] h5).mono ?_
    rintro e w6 ⟨rfl, h6, f6⟩
    go_wp2
    go_ret
    exact ⟨v, rfl, HR5.out.1.fr lawD f6 (fun b q => by have q' : b = pb := q; omega), h6, HR5.out.2.comp f6⟩
   | true =>
    obtain ⟨he, hk⟩ := of_decide_eq_true HCC.out
    have hst := HS.out.1
    rw [hf] at hst
    unfold dataF at hst
    rw [if_pos ⟨he, hk⟩] at hst
    have hT := token_meas (L := L) (k := 2) (by decide) he
    obtain ⟨tk, s1, hts⟩ : ∃ tk s1, tokenF L 2 st = (tk, s1) := ⟨_, _, rfl⟩
    obtain ⟨s2, hs2⟩ : ∃ s2, (if kindP L s1 = 3 then (if (L[s1.at_]?.getD (none_ 0)).flt = true ∨ 24 < (L[s1.at_]?.getD (none_ 0)).bits then faultF L 1 s1 else s1) else s1) = s2 := ⟨_, rfl⟩
    obtain ⟨u, s3, hu⟩ : ∃ u s3, tokenF L 3 s2 = (u, s3) := ⟨_, _, rfl⟩
    rw [hts] at hst hT
    simp only [hs2, hu] at hst
    simp only at hT
    have hg2 := data_goes L s1
    have hb2 := data_bits L s1
    rw [hs2] at hg2 hb2
    rw [hu] at hb2
    have hg3 := token_goes (L := L) (k := 3) (by decide) s2
    rw [hu] at hg3
    have hmm := measP_goes (hg2.trans hg3)
    simp only at hmm hb2
    have HST := Lib.hid (And.intro hst (And.intro hts (And.intro hu (And.intro (show measP L s3 + 1 ≤ f from by have := HS.out.2.1; omega) (And.intro hs2 hb2)))))
    have j9 : IntKind.i64.wrap (u.bits : Int) = (u.bits : Int) := by rw [IntKind.wrap_i64]; omega
    obtain ⟨cl, hcl⟩ := hR5.cells
    have HCL := Lib.hid hcl
    have HR5 := Lib.hid (And.intro hR5 F5)
    have hw5s := F5.size
    have hm1 : measP L s1 < measP L st := hT
    clear hst hts hu hs2 hg2 hb2 hg3 hmm hT hcl hR5 F5 he hk
    go_wp2_with fail
    refine (ptoken_any 2 (by decide) h5).mono ?_
    rw [HST.out.2.1]
    rintro e w6 ⟨rfl, h6, f6⟩
    have h6 : PAt w6 pb vT L s1 := h6
    unfold tokV
    obtain ⟨Td, hTd⟩ : ∃ Td, w6.heap.size = Td := ⟨_, rfl⟩
    have hneD : Td ≠ pb := by have := h6.blk.lt; omega
    have hs6 := f6.size
    go_upto_region 4 with fail
    try rw [hTd]
    obtain ⟨W6, hW6⟩ : ∃ W6, w6.alloc (.cells #[.string ⟨tk.text.toArray⟩, .int .i64 0] 68) = W6 := ⟨_, rfl⟩
    rw [hW6]
    have g6 : Fr Nil w6 W6 := by rw [← hW6]; exact frA
    have bD6 : Blk W6 Td #[.string ⟨tk.text.toArray⟩, .int .i64 0] 68 := by
     rw [← hW6]
     have h := Blk.new w6 #[.string ⟨tk.text.toArray⟩, .int .i64 0] 68
     rw [hTd] at h
     exact h
    have h6' := h6.fr g6
    have F6 := f6.via g6
    clear hW6 g6 h6 f6 h5
    obtain ⟨kd, hkd⟩ : ∃ kd, kindP L s1 = kd := ⟨_, rfl⟩
    have HKD := Lib.hid hkd
    go_wp2_with fail
    refine (pkind_any h6').mono ?_
    rw [hkd]
    rintro e w7 ⟨rfl, f7⟩
    have h7 := h6'.fr f7
    have bD7 := f7.blk bD6 (fun q => q)
    have F7 := F6.via f7
    clear hkd h6' bD6 F6 f7
    by_cases hk3 : kd = 3
    · subst hk3
      have hl1 := kind_lt HKD.out (by decide)
      obtain ⟨a, cap, rfl⟩ := h7.toks.shape
      obtain ⟨p0, p1, p2, p3, pf, pl⟩ := h7.facts
      obtain ⟨b, off, rfl, hb, hbp, t0, t1, t2, t3, t4⟩ := h7.tok hl1
      obtain ⟨n, hn⟩ : ∃ n, L.length = n := ⟨_, rfl⟩
      rw [hn] at p0
      have i6 : (s1.at_ : Int) < (n : Int) := by omega
      have i7 : (0 : Int) ≤ (s1.at_ : Int) := by omega
      have eL : L[s1.at_]?.getD (none_ 0) = L[s1.at_] := by rw [List.getElem?_eq_getElem hl1]; rfl
      have hs2 := HST.out.2.2.2.2.1
      rw [if_pos HKD.out, eL] at hs2
      obtain ⟨tf, htf⟩ : ∃ tf, L[s1.at_].flt = tf := ⟨_, rfl⟩
      obtain ⟨tb, htb⟩ : ∃ tb, L[s1.at_].bits = tb := ⟨_, rfl⟩
      rw [htf] at hs2 t2
      rw [htb] at hs2 t3
      have H7 := Lib.hid (And.intro h7 (And.intro bD7 (And.intro F7 hs2)))
      clear h7 bD7 F7 hs2 eL htf htb t0 t1 t4 hn p2 p3 hl1
      have m0 := World.new_ne w7 _ p0
      have m1 := World.new_ne w7 _ t2
      simp only at m0 m1
      obtain ⟨Tn, hTn⟩ : ∃ Tn, w7.heap.size = Tn := ⟨_, rfl⟩
      go_upto_region 5 with fail
      go_region_held3 (fun w' => w'.cell? ⟨pb, 0, none⟩ = some (.slice (some ⟨b, off, none⟩) n cap) ∧ w'.cell? ⟨pb, 1, none⟩ = some (.int .i64 (s1.at_ : Int)) ∧ w'.cell? ⟨b, off + s1.at_ * 5 + 2, none⟩ = some (.bool tf) ∧ w'.cell? ⟨b, off + s1.at_ * 5 + 3, none⟩ = some (.int .u64 (tb : Int))) (go_keep) (fail)
      have g7 : Fr Nil w7 (w7.alloc (.cells #[.bool tf, .int .u64 tb] 39)).drew := ((Fr.refl _ _).alloc _).drew
      have bN : Blk (w7.alloc (.cells #[.bool tf, .int .u64 tb] 39)).drew Tn #[.bool tf, .int .u64 (tb : Int)] 39 := by
       rw [← hTn]
       exact (Blk.new _ _ _).drew
      obtain ⟨W7, hW7⟩ : ∃ W7, (w7.alloc (.cells #[.bool tf, .int .u64 tb] 39)).drew = W7 := ⟨_, rfl⟩
      rw [hW7] at g7 bN ⊢
      have H8 := Lib.hid (And.intro (H7.out.1.fr g7) (And.intro (g7.blk H7.out.2.1 (fun q => q)) (And.intro (H7.out.2.2.1.via g7) H7.out.2.2.2)))
      have Nc0 := bN.cell 0
      have Nc1 := bN.cell 1
      simp at Nc0 Nc1
      clear g7 hW7 H7 m0 m1 p0 p1 pf t2 t3 i6 i7
      have key : ((tf = true ∨ 24 < tb) ∧ (tf = true ∨ tf = false ∧ (decide ((24 : Int) < (tb : Int)) = true))) ∨ (¬ (tf = true ∨ 24 < tb) ∧ tf = false ∧ (decide ((24 : Int) < (tb : Int)) = false)) := by
       cases tf
       · by_cases q : 24 < tb
         · exact .inl ⟨.inr q, .inr ⟨rfl, decide_eq_true (by omega)⟩⟩
         · exact .inr ⟨by simpa using q, rfl, decide_eq_false (by omega)⟩
       · exact .inl ⟨.inl rfl, .inl rfl⟩
      rcases key with ⟨hbad, rfl | ⟨rfl, hd⟩⟩ | ⟨hbad, rfl, hd⟩
      · have hs2 := H8.out.2.2.2
        rw [if_pos hbad] at hs2
        have HC0 := Lib.hid (And.intro H8.out.1 (And.intro H8.out.2.1 (And.intro H8.out.2.2.1 hs2)))
        clear hbad hs2 H8
        go_wp2_with fail
        refine (pfault_any 1 HC0.out.1).mono ?_
        rintro e w8 ⟨he, h8, f8⟩
        rw [HC0.out.2.2.2] at h8
        have HC : Hid (PAt w8 pb (.slice (some ⟨b, off, none⟩) L.length cap) L s2 ∧ Blk w8 Td #[.string ⟨tk.text.toArray⟩, .int .i64 0] 68 ∧ Fr (fun b => b = pb) w5 w8) := ⟨h8, f8.blk HC0.out.2.1 hneD, HC0.out.2.2.1.comp f8⟩
        subst he
        clear h8 f8
        go_wp2_with fail
        refine (ptoken_any 3 (by decide) HC.out.1).mono ?_
        rw [HST.out.2.2.1]
        rintro e w9 ⟨rfl, h9, f9⟩
        have h9 : PAt w9 pb _ L s3 := h9
        unfold tokV
        have bD9 := f9.blk HC.out.2.1 hneD
        have F9 := HC.out.2.2.comp f9
        have Dc := bD9.cell
        have Df := bD9.free
        have Dl := bD9.lt
        have H9 := Lib.hid (And.intro h9 (And.intro bD9 F9))
        have hs9 := F9.size
        clear h9 bD9 F9 f9
        go_upto_region 9 with fail
        obtain ⟨W, hW⟩ : ∃ W, w9.setCell ⟨Td, 1, none⟩ (.int .i64 (u.bits : Int)) = W := ⟨_, rfl⟩
        rw [hW]
        have GW : Fr (fun b => b = Td) w9 W := by rw [← hW]; exact frG
        have bW : Blk W Td #[.string ⟨tk.text.toArray⟩, .int .i64 (u.bits : Int)] 68 := by
         rw [← hW]
         exact blk1 H9.out.2.1 <;> simp
        have FW : Fr (fun b => b = pb) w5 W := H9.out.2.2.trans GW (fun k hk2 q => by have q' : k = Td := q; omega)
        have HW := Lib.hid (And.intro GW FW)
        clear hW Dc Df Dl
        have Dc := bW.cell
        have Df := bW.free
        have Dl := bW.lt
        have hsW := FW.size
        clear bW GW FW
        go_wp2_with (first
         | (at_builtin; refine wpList_push (w := W) rfl (.tmp 49) (.tmp 51) 23 rfl w.heap.size 68 i0 (.agg #[.string ⟨#[]⟩, .int .i64 0]) 2 24 Tryz.underlying23 hi hz0 hz1 hz2 rfl (by decide) v acc.length cl rfl (owns_frS HCL.out HW.out.2 (fun k q e => by have := (HCL.out.lt k q).1; have e' : k = pb := e; omega)) [.string ⟨tk.text.toArray⟩, .int .i64 (u.bits : Int)] rfl rfl (by simp [Value.oneCell']) (by unfold maxLen; omega) (by omega) (by omega) ?_; intro v' wz hownz fz hkz; have HO := Lib.hid (And.intro hownz (And.intro fz hkz)); clear hownz fz hkz)
         | fail)
        have E := push_end (Te := Td) (a := (tk.text, u.bits)) lawD HP.out.1 HR5.out.2 HR5.out.1 HW.out.2 H9.out.1 HW.out.1 hneD (show DAt _ _ _ _ from rfl) (owns_frS HCL.out HW.out.2 (fun k q e => by have := (HCL.out.lt k q).1; have e' : k = pb := e; omega)) HO.out.1 HO.out.2.1 HO.out.2.2
        go_roundg f
        case rel => exact ⟨acc ++ [(tk.text, u.bits)], s3, v', rfl, by simp; omega, Lib.hid ⟨HST.out.1, HST.out.2.2.2.1, E.1, E.2.1⟩, E.2.2⟩
        case measure => omega
      · have hs2 := H8.out.2.2.2
        rw [if_pos hbad] at hs2
        have HC0 := Lib.hid (And.intro H8.out.1 (And.intro H8.out.2.1 (And.intro H8.out.2.2.1 hs2)))
        have hd1 := of_decide_eq_true hd
        clear hbad hs2 H8
        go_wp2_with fail
        refine (pfault_any 1 HC0.out.1).mono ?_
        rintro e w8 ⟨he, h8, f8⟩
        rw [HC0.out.2.2.2] at h8
        have HC : Hid (PAt w8 pb (.slice (some ⟨b, off, none⟩) L.length cap) L s2 ∧ Blk w8 Td #[.string ⟨tk.text.toArray⟩, .int .i64 0] 68 ∧ Fr (fun b => b = pb) w5 w8) := ⟨h8, f8.blk HC0.out.2.1 hneD, HC0.out.2.2.1.comp f8⟩
        subst he
        clear h8 f8
        go_wp2_with fail
        refine (ptoken_any 3 (by decide) HC.out.1).mono ?_
        rw [HST.out.2.2.1]
        rintro e w9 ⟨rfl, h9, f9⟩
        have h9 : PAt w9 pb _ L s3 := h9
        unfold tokV
        have bD9 := f9.blk HC.out.2.1 hneD
        have F9 := HC.out.2.2.comp f9
        have Dc := bD9.cell
        have Df := bD9.free
        have Dl := bD9.lt
        have H9 := Lib.hid (And.intro h9 (And.intro bD9 F9))
        have hs9 := F9.size
        clear h9 bD9 F9 f9
        go_upto_region 9 with fail
        obtain ⟨W, hW⟩ : ∃ W, w9.setCell ⟨Td, 1, none⟩ (.int .i64 (u.bits : Int)) = W := ⟨_, rfl⟩
        rw [hW]
        have GW : Fr (fun b => b = Td) w9 W := by rw [← hW]; exact frG
        have bW : Blk W Td #[.string ⟨tk.text.toArray⟩, .int .i64 (u.bits : Int)] 68 := by
         rw [← hW]
         exact blk1 H9.out.2.1 <;> simp
        have FW : Fr (fun b => b = pb) w5 W := H9.out.2.2.trans GW (fun k hk2 q => by have q' : k = Td := q; omega)
        have HW := Lib.hid (And.intro GW FW)
        clear hW Dc Df Dl
        have Dc := bW.cell
        have Df := bW.free
        have Dl := bW.lt
        have hsW := FW.size
        clear bW GW FW
        go_wp2_with (first
         | (at_builtin; refine wpList_push (w := W) rfl (.tmp 49) (.tmp 51) 23 rfl w.heap.size 68 i0 (.agg #[.string ⟨#[]⟩, .int .i64 0]) 2 24 Tryz.underlying23 hi hz0 hz1 hz2 rfl (by decide) v acc.length cl rfl (owns_frS HCL.out HW.out.2 (fun k q e => by have := (HCL.out.lt k q).1; have e' : k = pb := e; omega)) [.string ⟨tk.text.toArray⟩, .int .i64 (u.bits : Int)] rfl rfl (by simp [Value.oneCell']) (by unfold maxLen; omega) (by omega) (by omega) ?_; intro v' wz hownz fz hkz; have HO := Lib.hid (And.intro hownz (And.intro fz hkz)); clear hownz fz hkz)
         | fail)
        have E := push_end (Te := Td) (a := (tk.text, u.bits)) lawD HP.out.1 HR5.out.2 HR5.out.1 HW.out.2 H9.out.1 HW.out.1 hneD (show DAt _ _ _ _ from rfl) (owns_frS HCL.out HW.out.2 (fun k q e => by have := (HCL.out.lt k q).1; have e' : k = pb := e; omega)) HO.out.1 HO.out.2.1 HO.out.2.2
        go_roundg f
        case rel => exact ⟨acc ++ [(tk.text, u.bits)], s3, v', rfl, by simp; omega, Lib.hid ⟨HST.out.1, HST.out.2.2.2.1, E.1, E.2.1⟩, E.2.2⟩
        case measure => omega
      · have hs2 := H8.out.2.2.2
        rw [if_neg hbad] at hs2
        have HC : Hid (PAt W7 pb (.slice (some ⟨b, off, none⟩) L.length cap) L s2 ∧ Blk W7 Td #[.string ⟨tk.text.toArray⟩, .int .i64 0] 68 ∧ Fr (fun b => b = pb) w5 W7) := ⟨hs2 ▸ H8.out.1, H8.out.2.1, H8.out.2.2.1⟩
        have hd1 := of_decide_eq_false hd
        clear hbad hs2 H8
        go_wp2_with fail
        refine (ptoken_any 3 (by decide) HC.out.1).mono ?_
        rw [HST.out.2.2.1]
        rintro e w9 ⟨rfl, h9, f9⟩
        have h9 : PAt w9 pb _ L s3 := h9
        unfold tokV
        have bD9 := f9.blk HC.out.2.1 hneD
        have F9 := HC.out.2.2.comp f9
        have Dc := bD9.cell
        have Df := bD9.free
        have Dl := bD9.lt
        have H9 := Lib.hid (And.intro h9 (And.intro bD9 F9))
        have hs9 := F9.size
        clear h9 bD9 F9 f9
        go_upto_region 9 with fail
        obtain ⟨W, hW⟩ : ∃ W, w9.setCell ⟨Td, 1, none⟩ (.int .i64 (u.bits : Int)) = W := ⟨_, rfl⟩
        rw [hW]
        have GW : Fr (fun b => b = Td) w9 W := by rw [← hW]; exact frG
        have bW : Blk W Td #[.string ⟨tk.text.toArray⟩, .int .i64 (u.bits : Int)] 68 := by
         rw [← hW]
         exact blk1 H9.out.2.1 <;> simp
        have FW : Fr (fun b => b = pb) w5 W := H9.out.2.2.trans GW (fun k hk2 q => by have q' : k = Td := q; omega)
        have HW := Lib.hid (And.intro GW FW)
        clear hW Dc Df Dl
        have Dc := bW.cell
        have Df := bW.free
        have Dl := bW.lt
        have hsW := FW.size
        clear bW GW FW
        go_wp2_with (first
         | (at_builtin; refine wpList_push (w := W) rfl (.tmp 49) (.tmp 51) 23 rfl w.heap.size 68 i0 (.agg #[.string ⟨#[]⟩, .int .i64 0]) 2 24 Tryz.underlying23 hi hz0 hz1 hz2 rfl (by decide) v acc.length cl rfl (owns_frS HCL.out HW.out.2 (fun k q e => by have := (HCL.out.lt k q).1; have e' : k = pb := e; omega)) [.string ⟨tk.text.toArray⟩, .int .i64 (u.bits : Int)] rfl rfl (by simp [Value.oneCell']) (by unfold maxLen; omega) (by omega) (by omega) ?_; intro v' wz hownz fz hkz; have HO := Lib.hid (And.intro hownz (And.intro fz hkz)); clear hownz fz hkz)
         | fail)
        have E := push_end (Te := Td) (a := (tk.text, u.bits)) lawD HP.out.1 HR5.out.2 HR5.out.1 HW.out.2 H9.out.1 HW.out.1 hneD (show DAt _ _ _ _ from rfl) (owns_frS HCL.out HW.out.2 (fun k q e => by have := (HCL.out.lt k q).1; have e' : k = pb := e; omega)) HO.out.1 HO.out.2.1 HO.out.2.2
        go_roundg f
        case rel => exact ⟨acc ++ [(tk.text, u.bits)], s3, v', rfl, by simp; omega, Lib.hid ⟨HST.out.1, HST.out.2.2.2.1, E.1, E.2.1⟩, E.2.2⟩
        case measure => omega
    · have hs2 := HST.out.2.2.2.2.1
      rw [if_neg (by rw [HKD.out]; exact hk3)] at hs2
      have d1 := decide_eq_false hk3
      have d2 : (kd == 3) = false := by simpa using hk3
      have HC : Hid (PAt w7 pb vT L s2 ∧ Blk w7 Td #[.string ⟨tk.text.toArray⟩, .int .i64 0] 68 ∧ Fr (fun b => b = pb) w5 w7) := ⟨hs2 ▸ h7, bD7, F7⟩
      clear h7 bD7 F7 hs2
      go_wp2_with fail
      refine (ptoken_any 3 (by decide) HC.out.1).mono ?_
      rw [HST.out.2.2.1]
      rintro e w9 ⟨rfl, h9, f9⟩
      have h9 : PAt w9 pb _ L s3 := h9
      unfold tokV
      have bD9 := f9.blk HC.out.2.1 hneD
      have F9 := HC.out.2.2.comp f9
      have Dc := bD9.cell
      have Df := bD9.free
      have Dl := bD9.lt
      have H9 := Lib.hid (And.intro h9 (And.intro bD9 F9))
      have hs9 := F9.size
      clear h9 bD9 F9 f9
      go_upto_region 9 with fail
      obtain ⟨W, hW⟩ : ∃ W, w9.setCell ⟨Td, 1, none⟩ (.int .i64 (u.bits : Int)) = W := ⟨_, rfl⟩
      rw [hW]
      have GW : Fr (fun b => b = Td) w9 W := by rw [← hW]; exact frG
      have bW : Blk W Td #[.string ⟨tk.text.toArray⟩, .int .i64 (u.bits : Int)] 68 := by
       rw [← hW]
       exact blk1 H9.out.2.1 <;> simp
      have FW : Fr (fun b => b = pb) w5 W := H9.out.2.2.trans GW (fun k hk2 q => by have q' : k = Td := q; omega)
      have HW := Lib.hid (And.intro GW FW)
      clear hW Dc Df Dl
      have Dc := bW.cell
      have Df := bW.free
      have Dl := bW.lt
      have hsW := FW.size
      clear bW GW FW
      go_wp2_with (first
       | (at_builtin; refine wpList_push (w := W) rfl (.tmp 49) (.tmp 51) 23 rfl w.heap.size 68 i0 (.agg #[.string ⟨#[]⟩, .int .i64 0]) 2 24 Tryz.underlying23 hi hz0 hz1 hz2 rfl (by decide) v acc.length cl rfl (owns_frS HCL.out HW.out.2 (fun k q e => by have := (HCL.out.lt k q).1; have e' : k = pb := e; omega)) [.string ⟨tk.text.toArray⟩, .int .i64 (u.bits : Int)] rfl rfl (by simp [Value.oneCell']) (by unfold maxLen; omega) (by omega) (by omega) ?_; intro v' wz hownz fz hkz; have HO := Lib.hid (And.intro hownz (And.intro fz hkz)); clear hownz fz hkz)
       | fail)
      have E := push_end (Te := Td) (a := (tk.text, u.bits)) lawD HP.out.1 HR5.out.2 HR5.out.1 HW.out.2 H9.out.1 HW.out.1 hneD (show DAt _ _ _ _ from rfl) (owns_frS HCL.out HW.out.2 (fun k q e => by have := (HCL.out.lt k q).1; have e' : k = pb := e; omega)) HO.out.1 HO.out.2.1 HO.out.2.2
      go_roundg f
      case rel => exact ⟨acc ++ [(tk.text, u.bits)], s3, v', rfl, by simp; omega, Lib.hid ⟨HST.out.1, HST.out.2.2.2.1, E.1, E.2.1⟩, E.2.2⟩
      case measure => omega
end
end Go.Proofs.YtlnmicddobgppaaGreatDoor
