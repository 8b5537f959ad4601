/-
  The program's row of atoms (layer 8), given what expr does. No conditions. The program's sum (layer 8), given what expr does. No conditions. The program's alternative (layer 8), given what expr does. No conditions.
-/
import Derived.Test.YtlnmicddobgppaaGreatDoorNnS
import Derived.Test.YtlnmicddobgppaaGreatDoorNnA
namespace Go.Proofs.YtlnmicddobgppaaGreatDoor
set_option maxRecDepth 100000
set_option maxHeartbeats 4000000
set_option linter.unusedSimpArgs false
set_option linter.unusedVariables false
open Go.RowKit
theorem rowEnd_bad {L : List TokV} {kd : Int} {t : TE} {l : List TE} {s : PS} : (rowEnd L kd (t :: l) s).2 = s := by
 cases l with
 | nil => rfl
 | cons a r =>
  unfold rowEnd
  simp only
  split <;> rfl
theorem atom_none {L : List TokV} {ex : PS → TE × PS} {s : PS} (h : (atomF L ex s).1 = none) : (atomF L ex s).2 = s := by
 revert h
 unfold atomF
 repeat' split
 all_goals (intro h; first | rfl | cases h)
theorem atoms_bad {L : List TokV} {ex : PS → TE × PS} {n : Nat} {acc : List TE} {s : PS} (h : s.e ≠ 0) : atomsF L ex n acc s = (acc, s) := by
 cases n with
 | zero => rfl
 | succ n => unfold atomsF; rw [if_pos h]
theorem atom_meas {L : List TokV} {ex : PS → TE × PS} (hgo : ∀ s, Goes L s (ex s).2) {s : PS} {t : TE} (hs : s.e = 0) (h : (atomF L ex s).1 = some t) : measP L (atomF L ex s).2 < measP L s := by
 revert h
 unfold atomF
 split
 · rename_i q; intro _; exact measP_lt hs (peek_lt q (by decide)) (Goes.refl _ _)
 split
 · rename_i q; intro _; exact measP_lt hs (peek_lt q (by decide)) (Goes.refl _ _)
 split
 · rename_i q; intro _; exact measP_lt hs (peek_lt q (by decide)) (Goes.refl _ _)
 split
 · rename_i q; intro _; exact measP_lt hs (peek_lt q (by decide)) (Goes.refl _ _)
 split
 · intro h; cases h
 · rename_i q; intro _; exact measP_lt hs (sees_lt (by simpa using q)) ((hgo _).trans (need_goes _ _))
theorem qpush_end {α : Type} {R : (Nat → Prop) → World → List Value → α → Prop} {size : Nat} {t : TypeId} {base : Nat} {w0 wr Wc w3 : World} {pb : Nat} {vT v v' : Value} {L : List TokV} {a1 a2 : Nat} {dp : Int} {acc : List α} {c cl : List Value} {a : α} (law : ElemLaw R size)
 (h0 : QAt w0 pb vT L a1 dp) (hb : pb < base) (hw : Fr (fun b => b = pb) w0 wr) (hR : RowsAt R size t base wr v acc) (FW : Fr (fun b => b = pb) wr Wc) (hi : QAt Wc pb vT L a2 dp)
 (he : R (fun b => b < base ∨ v.ownBlock = some b) Wc c a) (hcl : Wc.ownsRow base t size v acc.length cl) (ho : w3.ownsRow base t size v' (acc.length + 1) (cl ++ c)) (f3 : Fr (fun k => v.ownBlock = some k) Wc w3) (hk : ∀ k, v'.ownBlock = some k → v.ownBlock = some k ∨ Wc.heap.size ≤ k) (hz : w0.heap.size ≤ base) :
 RowsAt R size t base w3 v' (acc ++ [a]) ∧ QAt w3 pb vT L a2 dp ∧ Fr (fun b => b = pb) w0 w3 := by
 have hR2 := hR.fr law FW (fun b q => by have q' : b = pb := q; omega)
 have hown : ∀ k, v.ownBlock = some k → base ≤ k := fun k q => (hR.own k q).1
 have FF : Fr (fun b => b = pb) w0 w3 := (hw.comp FW).trans f3 (fun k hk2 q => by have := hown k q; omega)
 exact ⟨hR2.push law he hcl ho f3 hk, ⟨f3.blk hi.blk (fun q => by have := hown pb q; omega), h0.toks.fr FF (fun _ q => q), hi.le, hi.sz⟩, FF⟩
theorem RowsAt.join2 {α : Type} {R : (Nat → Prop) → World → List Value → α → Prop} {size : Nat} {t : TypeId} {base : Nat} {w w3 : World} {v' : Value} {acc ds : List α} {cl dl : List (List Value)} (law : ElemLaw R size) (h1 : cl.length = acc.length) (h2 : ∀ i (h : i < cl.length) (h' : i < acc.length), R (fun b => b < base) w cl[i] acc[i]) (g1 : dl.length = ds.length) (g2 : ∀ i (h : i < dl.length) (h' : i < ds.length), R (fun b => b < base) w dl[i] ds[i])
 (f : Fr (fun k => w.heap.size ≤ k) w w3) (hk : ∀ k, v'.ownBlock = some k → w.heap.size ≤ k) (ho : w3.ownsRow base t size v' (acc.length + ds.length) (cl.flatten ++ dl.flatten)) : RowsAt R size t base w3 v' (acc ++ ds) := by
 have key : ∀ (c : List Value) (a : α), R (fun b => b < base) w c a → R (fun b => b < base ∨ v'.ownBlock = some b) w3 c a := fun c a hr =>
  law.mono (law.fr (law.mono (Y := fun b => b < base ∨ w.heap.size ≤ b) hr (fun b hb q => by
   rcases q with q | q
   · exact q
   · omega)) f (fun b q => .inr q)) (fun b _ q => q.imp id (hk b))
 refine ⟨cl ++ dl, by simp [h1, g1], fun i hi hi' => ?_, by rw [List.flatten_append, List.length_append]; exact ho⟩
 by_cases q : i < cl.length
 · rw [List.getElem_append_left q, List.getElem_append_left (by omega)]
   exact key _ _ (h2 i q (by omega))
 · rw [List.getElem_append_right (by omega), List.getElem_append_right (by omega)]
   have e : i - cl.length = i - acc.length := by omega
   simp only [e]
   exact key _ _ (g2 _ (by simp at hi; omega) _)
theorem rowEnd_more {L : List TokV} {kd : Int} {t : TE} {l : List TE} {s : PS} (h : l ≠ []) : rowEnd L kd (t :: l) s = if kd = 2 ∨ kd = 7 then (t.withKids l, s) else (.mk 4 [] false 0 [] (t :: l) [] [], s) := by
 cases l with
 | nil => exact absurd rfl h
 | cons a r => rfl
theorem wpList_first {P : Program} {w : World} {ops : Array Oper} {rest : List Oper} {o : Oper} {a : Act} {Q : Exit → Act → World → Prop}
 (hg : o.guard = none) (s x : Operand) (t : TypeId) (hop : o.op = Op.call { callee := Callee.builtin Builtin.append, args := #[s, x], argTypes := #[t, t] })
 (base : Nat) (e : TypeId) (i : TypeInfo) (z : Value) (size bytes : Nat) (h1 : P.underlying t = some (.slice e)) (h2 : P.info? e = some i) (h3 : i.zero = some z) (h4 : i.size = size) (h5 : i.bytes = bytes) (h6 : z.cells.size = size) (h7 : 0 < size)
 (c : List Value) (hs : a.eval s = .slice (some ⟨w.heap.size, 0, none⟩) 1 1) (hl : c.length = size) (h1d : ∀ u ∈ c, u.oneCell' = true)
 (A : Option Addr) (m cp : Nat) (news : List Value) (hx : a.eval x = .slice A m cp) (hn : Src w A m size news) (h1c : ∀ u ∈ news, u.oneCell' = true)
 (b1 : 1 + m ≤ maxLen) (b2 : (1 + m) * bytes ≤ 140737488355328) (hbase : base ≤ w.heap.size)
 (hK : ∀ v' w', w'.ownsRow base e size v' (1 + m) (c ++ news) → Fr Nil w w' → (∀ k, v'.ownBlock = some k → w.heap.size ≤ k) → wpList P ops Q rest (a.put o.dst v') w') : wpList P ops Q (o :: rest) a (w.alloc (.cells c.toArray e)) := by
 have fA : Fr Nil w (w.alloc (.cells c.toArray e)) := (Fr.refl _ _).alloc _
 have hb : Blk (w.alloc (.cells c.toArray e)) w.heap.size c.toArray e := Blk.new _ _ _
 refine wpList_append_src hg s x t hop base e i z size bytes h1 h2 h3 h4 h5 h6 h7 (.slice (some ⟨w.heap.size, 0, none⟩) 1 1) 1 c hs ⟨by rw [hl]; omega, .inr ⟨_, 1, c.toArray, rfl, hbase, hb, Nat.le_refl _, by unfold maxLen; omega, by simp [hl], by simp; rw [← hl]; exact List.take_length⟩⟩ A m cp news hx (srcFB hn fA) h1c b1 b2 (Nat.le_trans hbase fA.size) ?_
 intro v' w' r1 r2 r3
 have g : Fr (fun k => k = w.heap.size) (w.alloc (.cells c.toArray e)) w' := Fr.grown (Fr.refl _ _) r2 (fun k q _ => by have e : some w.heap.size = some k := q; injection e with e; exact e.symm)
 refine hK v' w' r1 (fA.trans g (fun k hk q => by have q' : k = w.heap.size := q; omega)) (fun k q => ?_)
 have hz := fA.size
 rcases r3 with r3 | r3
 · rw [r3] at q; have e : some w.heap.size = some k := q; injection e with e; omega
 · rw [r3] at q; injection q with e; omega
theorem one_flatE {X : Nat → Prop} {w : World} {dl : List (List Value)} {ds : List TE} (g1 : dl.length = ds.length) (g2 : ∀ i (h : i < dl.length) (h' : i < ds.length), EAt X w dl[i] ds[i]) : ∀ u ∈ dl.flatten, u.oneCell' = true := by
 intro u hu
 obtain ⟨c, hc, hu⟩ := List.mem_flatten.1 hu
 obtain ⟨i, hi, rfl⟩ := List.getElem_of_mem hc
 obtain ⟨k, nm, fl, bi, a0, n0, c0, a1, n1, c1, a2, n2, c2, a3, n3, c3, e⟩ := (g2 i hi (by omega)).form
 rw [e] at hu
 unfold eC at hu
 simp at hu
 rcases hu with rfl | rfl | rfl | rfl | rfl | rfl | rfl | rfl <;> rfl
section
variable {w : World} {pb : Nat} {vT : Value} {L : List TokV} {s : PS} {dp : Int} {d : Nat}
theorem qrow_any (hex : QReads pb vT L d dp) (hs : s.e = 0) (h : QAt w pb vT L s.at_ dp) :
 Calls Tryz.prog 125 #[.pointer (some ⟨pb, 0, none⟩)] w (QEnds pb vT L dp w (fun w' v => EVal (fun b => b < w.heap.size) w' v (rowF L (exprF L d) s).1) (rowF L (exprF L d) s).2) := by
 obtain ⟨i0, hi, hz0, hz1, hz2⟩ := info_parts infoE
 have htf0 := run_tok0
 obtain ⟨T, hT⟩ : ∃ T, w.heap.size = T := ⟨_, rfl⟩
 obtain ⟨W1, hW1⟩ : ∃ W1, w.alloc (.cells #[.int .i64 0, .string ⟨#[]⟩, .bool false, .int .u64 0, .slice none 0 0, .slice none 0 0, .slice none 0 0, .slice none 0 0] 49) = W1 := ⟨_, rfl⟩
 have f1 : Fr Nil w W1 := by rw [← hW1]; exact frA
 have bT1 : Blk W1 T #[.int .i64 0, .string ⟨#[]⟩, .bool false, .int .u64 0, .slice none 0 0, .slice none 0 0, .slice none 0 0, .slice none 0 0] 49 := by rw [← hW1, ← hT]; exact Blk.new _ _ _
 have hpT : pb < T := by rw [← hT]; exact h.blk.lt
 have hp := fun w' (f : Fr Nil W1 w') => qpeek_any (h.fr (f1.comp f))
 have hsz := h.sz
 have hkp := peek_kind L s
 obtain ⟨⟨tk, tx, tf, tb, tl⟩, htk⟩ : ∃ t, peekT L s.at_ = t := ⟨_, rfl⟩
 rw [htk] at hp hkp
 simp only at hkp
 have HP := Lib.hid hp
 have H1 := Lib.hid (And.intro f1 (And.intro bT1 (And.intro h (And.intro hT hs))))
 have hgo := expr_goes L d
 obtain ⟨r, hr⟩ : ∃ r, atomF L (exprF L d) s = r := ⟨_, rfl⟩
 obtain ⟨r1, s1⟩ := r
 have HA := Lib.hid (fun w' (f : Fr Nil w w') => qatom_any hex hs (h.fr f))
 rw [hr] at HA
 have HX := Lib.hid hex
 have eR : rowF L (exprF L d) s = rowEnd L tk (atomsF L (exprF L d) (L.length + 2) [] s).1 (atomsF L (exprF L d) (L.length + 2) [] s).2 := by rw [rowF_eq, hkp]; rfl
 have eS := atoms_atom (L := L) (ex := exprF L d) (L.length + 1) [] s hs
 rw [hr] at eS
 simp only at eS
 cases r1 with
 | none =>
  obtain rfl : s = s1 := by have := atom_none (L := L) (ex := exprF L d) (s := s) (by rw [hr]); rw [hr] at this; exact this.symm
  simp only at eS
  rw [eS] at eR
  have eR2 : rowF L (exprF L d) s = (zeroE, faultF L 3 s) := eR
  rw [eR2]
  have HFL : Hid (∀ w', QAt w' pb vT L s.at_ dp → Calls Tryz.prog 74 #[.pointer (some ⟨pb, 0, none⟩), .int .i64 3] w' (Broke pb vT w' (faultF L 3 s))) := Lib.hid (fun w' h' => qfail_at (e := 3) (by decide) hs h')
  clear hp f1 bT1 h htk hkp hex HX eR eS eR2 hr
  go_enter Tryz.func125, Tryz.ntmps125
  go_upto_region 1 with fail
  try rw [hT]
  try rw [hW1]
  clear hT hW1
  go_wp2_with fail
  refine (HP.out W1 (Fr.refl _ _)).mono ?_
  rintro e w1 ⟨rfl, f1⟩
  unfold tokV
  have F1 := H1.out.1.comp f1
  clear f1
  go_wp2_with fail
  refine (HA.out _ (Fr.comp (S := Nil) F1 (by exact frA))).mono ?_
  rintro e w2 (⟨_, v2, rfl, hv2, h2, f2⟩ | hbr)
  · have hv2 : v2 = .tuple #[.agg #[.int .i64 0, .string ⟨#[]⟩, .bool false, .int .u64 0, .slice none 0 0, .slice none 0 0, .slice none 0 0, .slice none 0 0], .bool false] := hv2
    subst hv2
    have F2 : Fr (fun b => b = pb) w w2 := (Fr.of_nil F1).comp (Fr.comp (S := fun b => b = pb) (by exact frG) f2)
    have H2 := Lib.hid (And.intro h2 F2)
    clear h2 f2 F2 F1
    go_wp2_with fail
    refine (HFL.out _ (H2.out.1.fr (by exact frA))).mono ?_
    rintro r w3 hbr
    have hb2 := hbr.back (H2.out.2.comp (by exact frG))
    obtain ⟨_, rfl, _⟩ := hbr
    exact ⟨rfl, .inr hb2⟩
  · exact absurd H1.out.2.2.2.2 hbr.1
 | some t0 =>
  simp only [List.nil_append] at eS
  rw [eS] at eR
  obtain ⟨R, hR⟩ : ∃ R, atomsF L (exprF L d) (L.length + 1) [t0] s1 = R := ⟨_, rfl⟩
  rw [hR] at eR
  rw [eR]
  have hms := atom_meas (L := L) hgo (s := s) (t := t0) hs (by rw [hr])
  rw [hr] at hms
  simp only at hms
  have hm0 := measP_le L s
  unfold fuelP at hm0
  obtain ⟨F, hF⟩ : ∃ F, L.length + 1 = F := ⟨_, rfl⟩
  rw [hF] at hR
  have hm : measP L s1 + 1 ≤ F := by omega
  have hF2 : F ≤ 1000001 := by omega
  have HQ := Lib.hid (And.intro hR (And.intro hm hgo))
  clear hp f1 bT1 h htk hkp hex eR eS hr hR hms hm0 hF hm hgo
  go_enter Tryz.func125, Tryz.ntmps125
  go_upto_region 1 with fail
  try rw [hT]
  try rw [hW1]
  clear hT hW1
  go_wp2_with fail
  refine (HP.out W1 (Fr.refl _ _)).mono ?_
  rintro e w1 ⟨rfl, f1⟩
  unfold tokV
  have F1 := H1.out.1.comp f1
  have bT2 := f1.blk H1.out.2.1 (fun q => q)
  have HB1 := Lib.hid bT2
  clear f1 bT2
  go_wp2_with fail
  refine (HA.out _ (Fr.comp (S := Nil) F1 (by exact frA))).mono ?_
  rintro e w2 (⟨hs10, v2, rfl, ⟨cs, rfl, hE2⟩, h2, f2⟩ | hbr)
  · obtain ⟨k, nm, fl, bi, a0, n0, c0, a1, n1, c1, a2, n2, c2, a3, n3, c3, rfl⟩ := hE2.form
    unfold eC
    have F12 : Fr (fun b => b = pb) w1 w2 := Fr.comp (S := fun b => b = pb) (by exact frG) f2
    have F2 : Fr (fun b => b = pb) w w2 := (Fr.of_nil F1).comp F12
    have bT2 := F12.blk HB1.out (fun q => by have q' : T = pb := q; omega)
    obtain ⟨Th, hTh⟩ : ∃ Th, w2.heap.size = Th := ⟨_, rfl⟩
    obtain ⟨W3, hW3⟩ : ∃ W3, w2.alloc (.cells #[.int .i64 (k : Int), .string nm, .bool fl, .int .u64 (bi : Int), .slice a0 n0 c0, .slice a1 n1 c1, .slice a2 n2 c2, .slice a3 n3 c3] 49) = W3 := ⟨_, rfl⟩
    have sT := bT2.lt
    have hTTh : T < Th := by omega
    have f3 : Fr Nil w2 W3 := by rw [← hW3]; exact frA
    have bH3 : Blk W3 Th #[.int .i64 (k : Int), .string nm, .bool fl, .int .u64 (bi : Int), .slice a0 n0 c0, .slice a1 n1 c1, .slice a2 n2 c2, .slice a3 n3 c3] 49 := by rw [← hW3, ← hTh]; exact Blk.new _ _ _
    have hs3 : W3.heap.size = Th + 1 := by rw [← hW3, ← hTh]; simp
    have hE3 : EAt (fun b => b < T + 1 ∨ b = Th) W3 (eC k nm fl bi a0 n0 c0 a1 n1 c1 a2 n2 c2 a3 n3 c3) t0 := (hE2.mono (Y := fun b => b < T + 1 ∨ b = Th) (fun b hb q => by have q2 : b < w1.heap.size := (by have := HB1.out.lt; rcases q with q | q <;> omega); simpa using q2)).fr f3 (fun _ q => q.elim)
    have hz3 : w.heap.size ≤ W3.heap.size := by have h1 := F2.size; have h2 := f3.size; omega
    have H3 := Lib.hid (And.intro hE3 (And.intro (h2.fr f3) (And.intro (F2.via f3) (And.intro (f3.blk bT2 (fun q => q)) (And.intro bH3 hs10)))))
    go_upto_region 3 with fail
    try rw [hTh]
    try rw [hW3]
    have hwT : w.heap.size = T := H1.out.2.2.2.1
    have HwT := Lib.hid hwT
    clear hTh hW3 hE2 hE3 h2 f2 f3 F12 F2 F1 bT2 bH3 sT hwT
    go_wp2_with fail
    go_loopg [6] F (fun g vo wr => ∃ (acc : List TE) (st : PS) (v : Value), v = vo ∧ acc.length + g = F ∧ Hid (atomsF L (exprF L d) g (t0 :: acc) st = R ∧ measP L st + 1 ≤ g ∧ st.e = 0 ∧ RowsAt EAt 8 49 (Th + 1) wr v acc ∧ QAt wr pb vT L st.at_ dp) ∧ Fr (fun b => b = pb) W3 wr)
    case atStart => exact ⟨[], s1, _, rfl, by simp, Lib.hid ⟨HQ.out.1, HQ.out.2.1, H3.out.2.2.2.2.2, .nil, H3.out.2.1⟩, Fr.refl _ _⟩
    case round =>
     obtain ⟨acc, st, v, rfl, hg, HS, hw⟩ := hrel
     obtain ⟨Vr, hVr⟩ : ∃ V, V = wr := ⟨_, rfl⟩
     subst hVr
     obtain ⟨hst, hme, he, hrow, hq⟩ := HS.out
     obtain ⟨f, rfl⟩ : ∃ f, gk = f + 1 := ⟨gk - 1, by omega⟩
     obtain ⟨⟨ra, sa⟩, hra⟩ : ∃ r, atomF L (exprF L d) st = r := ⟨_, rfl⟩
     have HA2 := Lib.hid (fun w' (f : Fr Nil Vr w') => qatom_any HX.out he (hq.fr f))
     rw [hra] at HA2
     have eS := atoms_atom (L := L) (ex := exprF L d) f (t0 :: acc) st he
     rw [hra] at eS
     rw [eS] at hst
     simp only at hst
     have hsw := hw.size
     cases ra with
     | none =>
      obtain rfl : st = sa := by have := atom_none (L := L) (ex := exprF L d) (s := st) (by rw [hra]); rw [hra] at this; exact this.symm
      simp only at hst
      subst hst
      have HE := Lib.hid he
      clear eS hra hme hrow hq he
      go_wp2_with fail
      refine (HA2.out _ (by exact frA)).mono ?_
      rintro e w4 (⟨_, v4, rfl, hv4, h4, f4⟩ | hbr)
      · have hv4 : v4 = .tuple #[.agg #[.int .i64 0, .string ⟨#[]⟩, .bool false, .int .u64 0, .slice none 0 0, .slice none 0 0, .slice none 0 0, .slice none 0 0], .bool false] := hv4
        subst hv4
        have FV : Fr (fun b => b = pb) Vr w4 := Fr.comp (S := fun b => b = pb) (by exact frG) f4
        obtain ⟨Te, hTe⟩ : ∃ Te, w4.heap.size = Te := ⟨_, rfl⟩
        obtain ⟨W5, hW5⟩ : ∃ W5, w4.alloc (.cells #[.int .i64 0, .string ⟨#[]⟩, .bool false, .int .u64 0, .slice none 0 0, .slice none 0 0, .slice none 0 0, .slice none 0 0] 49) = W5 := ⟨_, rfl⟩
        have f5 : Fr Nil w4 W5 := by rw [← hW5]; exact frA
        have F35 : Fr (fun b => b = pb) W3 W5 := (hw.comp FV).via f5
        have bT5 := F35.blk H3.out.2.2.2.1 (fun q => by have q' : T = pb := q; omega)
        have bH5 := F35.blk H3.out.2.2.2.2.1 (fun q => by have q' : Th = pb := q; omega)
        have hE5 := H3.out.1.fr F35 (fun b q => by have q' : b = pb := q; show b < T + 1 ∨ b = Th; omega)
        have hR5 := HS.out.2.2.2.1.fr lawE (FV.via f5) (fun b q => by have q' : b = pb := q; omega)
        have hown5 := hR5.own
        obtain ⟨va, vc, hvs⟩ := hR5.shape
        have H5 := Lib.hid (And.intro hE5 (And.intro (h4.fr f5) (And.intro (H3.out.2.2.1.comp F35) (And.intro bT5 (And.intro bH5 (And.intro hR5 hown5))))))
        obtain ⟨n, hn⟩ : ∃ n, acc.length = n := ⟨_, rfl⟩
        rw [hn] at hvs
        subst hvs
        have HW5 := Lib.hid (And.intro hTe hW5)
        clear hTe hW5
        go_upto_region 7 with fail
        try rw [HW5.out.1]
        try rw [HW5.out.2]
        have z0 := bT5.cell 0
        have z1 := bT5.cell 1
        have z2 := bT5.cell 2
        have z3 := bT5.cell 3
        have z4 := bT5.cell 4
        have z5 := bT5.cell 5
        have z6 := bT5.cell 6
        have z7 := bT5.cell 7
        simp at z0 z1 z2 z3 z4 z5 z6 z7
        have zf := bT5.free
        have zl := bT5.lt
        have x0 := bH5.cell 0
        have x1 := bH5.cell 1
        have x2 := bH5.cell 2
        have x3 := bH5.cell 3
        have x4 := bH5.cell 4
        have x5 := bH5.cell 5
        have x6 := bH5.cell 6
        have x7 := bH5.cell 7
        simp at x0 x1 x2 x3 x4 x5 x6 x7
        have xf := bH5.free
        have xl := bH5.lt
        have hne1 : ¬ T = Th := by omega
        have hne2 : ¬ Th = T := by omega
        have HN := Lib.hid (And.intro hn HE.out)
        have hnF : n ≤ 1000001 := by omega
        clear h4 f4 f5 FV F35 hE5 bT5 bH5 hR5 hown5 hn hg HS
        by_cases hn0 : n = 0
        · subst hn0
          have hacc : acc = [] := List.eq_nil_of_length_eq_zero HN.out.1
          subst hacc
          have fin : Hid (∀ wf, Fr (fun b => b = T) W5 wf → QEnds pb vT L dp w (fun w' v => EVal (fun b => b < w.heap.size) w' v (rowEnd L tk (t0 :: []) st).1) (rowEnd L tk (t0 :: []) st).2 (.returned (.agg #[.int .i64 (k : Int), .string nm, .bool fl, .int .u64 (bi : Int), .slice a0 n0 c0, .slice a1 n1 c1, .slice a2 n2 c2, .slice a3 n3 c3])) wf) := Lib.hid (fun wf fz => by
           have hwT := HwT.out
           have FF : Fr (fun b => b = pb) w wf := H5.out.2.2.1.trans fz (fun b hb q => by have q' : b = T := q; omega)
           exact .inl ⟨HN.out.2, _, rfl, ⟨_, rfl, (H5.out.1.fr fz (fun b q => by have q' : b = T := q; show b < T + 1 ∨ b = Th; omega)).mono (fun b _ q => by have q' : b < w.heap.size := q; show b < T + 1 ∨ b = Th; omega)⟩, ⟨fz.blk H5.out.2.1.blk (fun q => by have q' : pb = T := q; omega), H1.out.2.2.1.toks.fr FF (fun _ q => q), H5.out.2.1.le, H5.out.2.1.sz⟩, FF⟩)
          go_wp2
          (try simp only [Exit.inBlock, Exit.then])
          refine bodyPost_ret (v := .agg #[.int .i64 (k : Int), .string nm, .bool fl, .int .u64 (bi : Int), .slice a0 n0 c0, .slice a1 n1 c1, .slice a2 n2 c2, .slice a3 n3 c3]) (by simp [results, Tryz.results125, go_sem, *]) rfl ?_
          exact fin.out _ (by exact frG)
        · have hacc : acc ≠ [] := fun q => hn0 (by rw [← HN.out.1, q]; rfl)
          have hb0 : ((n : Int) == 0) = false := by rw [beq_eq_false_iff_ne]; omega
          have hb1 : ¬ ((n : Int) = 0) := by omega
          by_cases hk2 : tk = 2
          · subst hk2
            have fin : Hid (∀ wf, Fr (fun b => b = T ∨ b = Th) W5 wf → QEnds pb vT L dp w (fun w' v => EVal (fun b => b < w.heap.size) w' v (rowEnd L 2 (t0 :: acc) st).1) (rowEnd L 2 (t0 :: acc) st).2 (.returned (.agg #[.int .i64 (k : Int), .string nm, .bool fl, .int .u64 (bi : Int), .slice a0 n0 c0, .slice va n vc, .slice a2 n2 c2, .slice a3 n3 c3])) wf) := Lib.hid (fun wf fz => by
             have hwT := HwT.out
             rw [rowEnd_more hacc, if_pos (by decide)]
             have FF : Fr (fun b => b = pb) w wf := H5.out.2.2.1.trans fz (fun b hb q => by rcases q with q | q <;> omega)
             obtain ⟨kc, hkc, hkc2⟩ := (H5.out.2.2.2.2.2.1.fr lawE fz (fun b q => by rcases q with q | q <;> omega)).row lawE
             rw [HN.out.1] at hkc
             refine .inl ⟨HN.out.2, _, rfl, ⟨_, rfl, EAt.withKids (kc := kc) ((H5.out.1.fr fz (fun b q => by rcases q with q | q; (show b < T + 1 ∨ b = Th; omega); exact .inr q)).mono (fun b _ q => by have q' : b < w.heap.size := q; show b < T + 1 ∨ b = Th; omega)) ?_ (fun i hi => (hkc2 i hi).mono (fun b _ q => by have q' : b < w.heap.size := q; show b < Th + 1; omega))⟩, ⟨fz.blk H5.out.2.1.blk (fun q => by rcases q with q | q <;> omega), H1.out.2.2.1.toks.fr FF (fun _ q => q), H5.out.2.1.le, H5.out.2.1.sz⟩, FF⟩
             rw [HN.out.1]
             exact hkc.mono (by decide) (fun b _ q => by have q' : b < w.heap.size := q; show b < Th + 1; omega))
            go_wp2
            (try simp only [Exit.inBlock, Exit.then])
            refine bodyPost_ret (v := .agg #[.int .i64 (k : Int), .string nm, .bool fl, .int .u64 (bi : Int), .slice a0 n0 c0, .slice va n vc, .slice a2 n2 c2, .slice a3 n3 c3]) (by simp [results, Tryz.results125, go_sem, *]) rfl ?_
            exact fin.out _ (by exact frG)
          by_cases hk7 : tk = 7
          · subst hk7
            have fin : Hid (∀ wf, Fr (fun b => b = T ∨ b = Th) W5 wf → QEnds pb vT L dp w (fun w' v => EVal (fun b => b < w.heap.size) w' v (rowEnd L 7 (t0 :: acc) st).1) (rowEnd L 7 (t0 :: acc) st).2 (.returned (.agg #[.int .i64 (k : Int), .string nm, .bool fl, .int .u64 (bi : Int), .slice a0 n0 c0, .slice va n vc, .slice a2 n2 c2, .slice a3 n3 c3])) wf) := Lib.hid (fun wf fz => by
             have hwT := HwT.out
             rw [rowEnd_more hacc, if_pos (by decide)]
             have FF : Fr (fun b => b = pb) w wf := H5.out.2.2.1.trans fz (fun b hb q => by rcases q with q | q <;> omega)
             obtain ⟨kc, hkc, hkc2⟩ := (H5.out.2.2.2.2.2.1.fr lawE fz (fun b q => by rcases q with q | q <;> omega)).row lawE
             rw [HN.out.1] at hkc
             refine .inl ⟨HN.out.2, _, rfl, ⟨_, rfl, EAt.withKids (kc := kc) ((H5.out.1.fr fz (fun b q => by rcases q with q | q; (show b < T + 1 ∨ b = Th; omega); exact .inr q)).mono (fun b _ q => by have q' : b < w.heap.size := q; show b < T + 1 ∨ b = Th; omega)) ?_ (fun i hi => (hkc2 i hi).mono (fun b _ q => by have q' : b < w.heap.size := q; show b < Th + 1; omega))⟩, ⟨fz.blk H5.out.2.1.blk (fun q => by rcases q with q | q <;> omega), H1.out.2.2.1.toks.fr FF (fun _ q => q), H5.out.2.1.le, H5.out.2.1.sz⟩, FF⟩
             rw [HN.out.1]
             exact hkc.mono (by decide) (fun b _ q => by have q' : b < w.heap.size := q; show b < Th + 1; omega))
            go_wp2
            (try simp only [Exit.inBlock, Exit.then])
            refine bodyPost_ret (v := .agg #[.int .i64 (k : Int), .string nm, .bool fl, .int .u64 (bi : Int), .slice a0 n0 c0, .slice va n vc, .slice a2 n2 c2, .slice a3 n3 c3]) (by simp [results, Tryz.results125, go_sem, *]) rfl ?_
            exact fin.out _ (by exact frG)
          have d2 : (tk == 2) = false := by simpa using hk2
          have d7 : (tk == 7) = false := by simpa using hk7
          obtain ⟨kcl, hk1, hk3, hk4⟩ := H5.out.2.2.2.2.2.1
          rw [HN.out.1] at hk4
          obtain ⟨kA, kC, hkv, hsrc⟩ := owns_src hk4
          injection hkv with hkv1 hkv2 hkv3
          subst hkv1 hkv3
          have hone := one_flatE hk1 hk3
          have fin : Hid (∀ w6 v4, Fr Nil W5 w6 → w6.ownsRow (T + 1) 49 8 v4 (1 + n) (eC k nm fl bi a0 n0 c0 a1 n1 c1 a2 n2 c2 a3 n3 c3 ++ kcl.flatten) → (∀ k, v4.ownBlock = some k → W5.heap.size ≤ k) → ∀ wf, Fr (fun b => b = T) w6 wf → QEnds pb vT L dp w (fun w' v => EVal (fun b => b < w.heap.size) w' v (rowEnd L tk (t0 :: acc) st).1) (rowEnd L tk (t0 :: acc) st).2 (.returned (.agg #[.int .i64 4, .string ⟨#[]⟩, .bool false, .int .u64 0, .slice none 0 0, v4, .slice none 0 0, .slice none 0 0])) wf) := Lib.hid (fun w6 v4 f6 ho hv4 wf fz => by
           have hwT := HwT.out
           rw [rowEnd_more hacc, if_neg (fun q => q.elim hk2 hk7)]
           have FF : Fr (fun b => b = pb) w wf := (H5.out.2.2.1.via f6).trans fz (fun b hb q => by have q' : b = T := q; omega)
           have J : RowsAt EAt 8 49 (T + 1) w6 v4 ([t0] ++ acc) := RowsAt.join2 (w := W5) (cl := [eC k nm fl bi a0 n0 c0 a1 n1 c1 a2 n2 c2 a3 n3 c3]) (dl := kcl) lawE rfl (fun i h h' => by
            obtain rfl : i = 0 := by simp at h; exact h
            exact H5.out.1.mono (fun b _ q => .inl q)) hk1 (fun i h h' => (hk3 i h h').mono (fun b _ q => .inl (by have q' : b < T + 1 := q; omega))) (f6.mono (fun _ _ q => q.elim)) hv4 (by rw [HN.out.1]; simpa using ho)
           obtain ⟨kc, hkc, hkc2⟩ := (J.fr lawE fz (fun b q => by have q' : b = T := q; omega)).row lawE
           exact .inl ⟨HN.out.2, _, rfl, ⟨_, rfl, EAt.app (ks := t0 :: acc) (kc := kc) 4 [] (hkc.mono (by decide) (fun b _ q => by have q' : b < w.heap.size := q; show b < T + 1; omega)) (fun i hi => (hkc2 i hi).mono (fun b _ q => by have q' : b < w.heap.size := q; show b < T + 1; omega))⟩, ⟨fz.blk (H5.out.2.1.fr f6).blk (fun q => by have q' : pb = T := q; omega), H1.out.2.2.1.toks.fr FF (fun _ q => q), H5.out.2.1.le, H5.out.2.1.sz⟩, FF⟩)
          have HK := Lib.hid (And.intro hsrc (And.intro hone (And.intro hacc (And.intro hk1 hk3))))
          clear hsrc hone hacc hk1 hk3 hk4
          go_wp2_with (first
           | (at_builtin; refine wpList_first rfl (.tmp 48) (.tmp 49) 46 rfl (T + 1) 49 i0 (.agg #[.int .i64 0, .string ⟨#[]⟩, .bool false, .int .u64 0, .slice none 0 0, .slice none 0 0, .slice none 0 0, .slice none 0 0]) 8 136 Tryz.underlying46 hi hz0 hz1 hz2 rfl (by decide) [.int .i64 (k : Int), .string nm, .bool fl, .int .u64 (bi : Int), .slice a0 n0 c0, .slice a1 n1 c1, .slice a2 n2 c2, .slice a3 n3 c3] rfl rfl (by simp [Value.oneCell']) va n vc kcl.flatten rfl HK.out.1 HK.out.2.1 (by unfold maxLen; omega) (by omega) (by omega) ?_; intro v4 w6 hown6 f6 hk6; obtain ⟨xa, xc, rfl⟩ := owns_shape hown6; have bT6 := f6.blk H5.out.2.2.2.1 (fun q => q); have y0 := bT6.cell 0; have y1 := bT6.cell 1; have y2 := bT6.cell 2; have y3 := bT6.cell 3; have y4 := bT6.cell 4; have y5 := bT6.cell 5; have y6 := bT6.cell 6; have y7 := bT6.cell 7; simp at y0 y1 y2 y3 y4 y5 y6 y7; have yf := bT6.free; have yl := bT6.lt; have HO := Lib.hid (And.intro hown6 (And.intro f6 hk6)); clear hown6 f6 hk6 bT6)
           | fail)
          go_wp2
          (try simp only [Exit.inBlock, Exit.then])
          refine bodyPost_ret (v := .agg #[.int .i64 4, .string ⟨#[]⟩, .bool false, .int .u64 0, .slice none 0 0, .slice xa (1 + n) xc, .slice none 0 0, .slice none 0 0]) (by simp [results, Tryz.results125, go_sem, *]) rfl ?_
          exact fin.out _ _ HO.out.2.1 HO.out.1 HO.out.2.2 _ (by exact frG)
      · exact absurd HE.out hbr.1
     | some t1 =>
      have hms := atom_meas (L := L) HQ.out.2.2 (s := st) (t := t1) he (by rw [hra])
      rw [hra] at hms
      simp only [List.cons_append] at hst hms
      have hmf : measP L sa + 1 ≤ f := by omega
      have HT := Lib.hid (And.intro hst hmf)
      obtain ⟨cl, hcl⟩ := hrow.cells
      have hown := hrow.own
      have HCL := Lib.hid (And.intro hcl hown)
      have hown2 : ∀ k, v.ownBlock = some k → Th + 1 ≤ k := fun k q => (hown k q).1
      clear hst hms hmf eS hra hme hq hcl hown
      go_wp2_with fail
      refine (HA2.out _ (by exact frA)).mono ?_
      rintro e w4 (⟨hsa0, v4, rfl, ⟨cs, rfl, hE4⟩, h4, f4⟩ | hbr)
      · obtain ⟨kq, nmq, flq, biq, a0q, n0q, c0q, a1q, n1q, c1q, a2q, n2q, c2q, a3q, n3q, c3q, rfl⟩ := hE4.form
        unfold eC
        have FV : Fr (fun b => b = pb) Vr w4 := Fr.comp (S := fun b => b = pb) (by exact frG) f4
        have hE4' : EAt (fun b => b < Th + 1 ∨ v.ownBlock = some b) w4 (eC kq nmq flq biq a0q n0q c0q a1q n1q c1q a2q n2q c2q a3q n3q c3q) t1 := hE4.mono (fun b _ q => by
         have q2 : b < Vr.heap.size := by
          rcases q with q | q
          · omega
          · exact (HCL.out.2 b q).2
         simpa using q2)
        obtain ⟨Te, hTe⟩ : ∃ Te, w4.heap.size = Te := ⟨_, rfl⟩
        obtain ⟨W5, hW5⟩ : ∃ W5, w4.alloc (.cells #[.int .i64 (kq : Int), .string nmq, .bool flq, .int .u64 (biq : Int), .slice a0q n0q c0q, .slice a1q n1q c1q, .slice a2q n2q c2q, .slice a3q n3q c3q] 49) = W5 := ⟨_, rfl⟩
        have f5 : Fr Nil w4 W5 := by rw [← hW5]; exact frA
        have bE5 : Blk W5 Te #[.int .i64 (kq : Int), .string nmq, .bool flq, .int .u64 (biq : Int), .slice a0q n0q c0q, .slice a1q n1q c1q, .slice a2q n2q c2q, .slice a3q n3q c3q] 49 := by rw [← hW5, ← hTe]; exact Blk.new _ _ _
        have FW := FV.via f5
        have hcl5 := owns_frS HCL.out.1 FW (fun k q e => by have := hown2 k q; have e' : k = pb := e; omega)
        have hsz5 := FW.size
        have H5 := Lib.hid (And.intro (hE4'.fr f5 (fun _ q => q.elim)) (And.intro (h4.fr f5) (And.intro FW (And.intro hcl5 hsa0))))
        have HW5 := Lib.hid (And.intro hTe hW5)
        clear hTe hW5
        go_upto_region 7 with fail
        try rw [HW5.out.1]
        try rw [HW5.out.2]
        have u0 := bE5.cell 0
        have u1 := bE5.cell 1
        have u2 := bE5.cell 2
        have u3 := bE5.cell 3
        have u4 := bE5.cell 4
        have u5 := bE5.cell 5
        have u6 := bE5.cell 6
        have u7 := bE5.cell 7
        simp at u0 u1 u2 u3 u4 u5 u6 u7
        have uf := bE5.free
        have ul := bE5.lt
        clear HW5 hE4 hE4' h4 f4 f5 FV FW bE5 hcl5 HS
        go_wp2_with (first
         | (at_builtin; refine wpList_push (w := W5) rfl (.tmp 28) (.tmp 30) 46 rfl (Th + 1) 49 i0 (.agg #[.int .i64 0, .string ⟨#[]⟩, .bool false, .int .u64 0, .slice none 0 0, .slice none 0 0, .slice none 0 0, .slice none 0 0]) 8 136 Tryz.underlying46 hi hz0 hz1 hz2 rfl (by decide) v acc.length cl rfl H5.out.2.2.2.1 [.int .i64 (kq : Int), .string nmq, .bool flq, .int .u64 (biq : Int), .slice a0q n0q c0q, .slice a1q n1q c1q, .slice a2q n2q c2q, .slice a3q n3q c3q] rfl rfl (by simp [Value.oneCell']) (by unfold maxLen; omega) (by omega) (by omega) ?_; intro v' w9 hown9 f9 hk9; have HO := Lib.hid (And.intro hown9 (And.intro f9 hk9)); clear hown9 f9 hk9)
         | fail)
        have E := qpush_end (a := t1) lawE H3.out.2.1 (by omega) hw hrow H5.out.2.2.1 H5.out.2.1 H5.out.1 H5.out.2.2.2.1 HO.out.1 HO.out.2.1 HO.out.2.2 (by omega)
        go_roundg f
        case rel => exact ⟨acc ++ [t1], sa, v', rfl, by simp; omega, Lib.hid ⟨HT.out.1, HT.out.2, H5.out.2.2.2.2, E.1, E.2.1⟩, E.2.2⟩
        case measure => omega
      · have hb2 := hbr.back ((H3.out.2.2.1.comp hw).comp (by exact frG))
        obtain ⟨hne, rfl, _⟩ := hbr
        refine ⟨rfl, .inr ?_⟩
        have e2 : R = (t0 :: (acc ++ [t1]), sa) := by rw [← HT.out.1, atoms_bad hne]
        rw [e2, rowEnd_bad]
        exact hb2
  · have hb2 := hbr.back (Fr.of_nil (Fr.comp (S := Nil) F1 (by exact frA)))
    obtain ⟨hne, rfl, _⟩ := hbr
    refine ⟨rfl, .inr ?_⟩
    have e2 : R = ([t0], s1) := by rw [← HQ.out.1, atoms_bad hne]
    rw [e2, rowEnd_bad]
    exact hb2
end
section
variable {w : World} {pb : Nat} {vT : Value} {L : List TokV} {s : PS} {dp : Int} {d : Nat}
theorem qsum_any (hex : QReads pb vT L d dp) (hs : s.e = 0) (h : QAt w pb vT L s.at_ dp) :
 Calls Tryz.prog 107 #[.pointer (some ⟨pb, 0, none⟩)] w (QEnds pb vT L dp w (fun w' v => EVal (fun b => b < w.heap.size) w' v (opF L (exprF L d) s).1) (opF L (exprF L d) s).2) := by
 obtain ⟨T, hT⟩ : ∃ T, w.heap.size = T := ⟨_, rfl⟩
 obtain ⟨W1, hW1⟩ : ∃ W1, w.alloc (.cells #[.int .i64 0, .string ⟨#[]⟩, .bool false, .int .u64 0, .slice none 0 0, .slice none 0 0, .slice none 0 0, .slice none 0 0] 49) = W1 := ⟨_, rfl⟩
 have f1 : Fr Nil w W1 := by rw [← hW1]; exact frA
 have bT1 : Blk W1 T #[.int .i64 0, .string ⟨#[]⟩, .bool false, .int .u64 0, .slice none 0 0, .slice none 0 0, .slice none 0 0, .slice none 0 0] 49 := by rw [← hW1, ← hT]; exact Blk.new _ _ _
 have hpT : pb < T := by rw [← hT]; exact h.blk.lt
 have hsz := h.sz
 obtain ⟨⟨E1, s1⟩, hr1⟩ : ∃ r, rowF L (exprF L d) s = r := ⟨_, rfl⟩
 have HR1 := Lib.hid (qrow_any hex hs (h.fr f1))
 rw [hr1] at HR1
 simp only at HR1
 have eO : opF L (exprF L d) s = if s1.e = 0 ∧ kindP L s1 = 4 then (.mk 5 (tokenF L 4 s1).1.text false 0 [] [E1, (rowF L (exprF L d) (tokenF L 4 s1).2).1] [] [], (rowF L (exprF L d) (tokenF L 4 s1).2).2) else (E1, s1) := by
  unfold opF
  rw [hr1]
 obtain ⟨R, hR⟩ : ∃ R, opF L (exprF L d) s = R := ⟨_, rfl⟩
 rw [hR]
 rw [hR] at eO
 have HRO := Lib.hid eO
 have H1 := Lib.hid (And.intro f1 (And.intro bT1 (And.intro h (And.intro hT hs))))
 have HX := Lib.hid hex
 clear f1 bT1 h hex hr1 eO hR
 go_enter Tryz.func107, Tryz.ntmps107
 go_upto_region 1 with fail
 try rw [hT]
 try rw [hW1]
 clear hT hW1
 go_wp2_with fail
 refine HR1.out.mono ?_
 rintro e w2 (⟨hs10, v2, rfl, ⟨cs, rfl, hE2⟩, h2, f2⟩ | hbr)
 · obtain ⟨k, nm, fl, bi, a0, n0, c0, a1, n1, c1, a2, n2, c2, a3, n3, c3, rfl⟩ := hE2.form
   unfold eC
   have bT2 := f2.blk H1.out.2.1 (fun q => by have q' : T = pb := q; omega)
   obtain ⟨Te, hTe⟩ : ∃ Te, w2.heap.size = Te := ⟨_, rfl⟩
   obtain ⟨W3, hW3⟩ : ∃ W3, w2.alloc (.cells #[.int .i64 (k : Int), .string nm, .bool fl, .int .u64 (bi : Int), .slice a0 n0 c0, .slice a1 n1 c1, .slice a2 n2 c2, .slice a3 n3 c3] 49) = W3 := ⟨_, rfl⟩
   have sT := bT2.lt
   have hTTe : T < Te := by omega
   have sT1 := H1.out.2.1.lt
   have f3 : Fr Nil w2 W3 := by rw [← hW3]; exact frA
   have bE3 : Blk W3 Te #[.int .i64 (k : Int), .string nm, .bool fl, .int .u64 (bi : Int), .slice a0 n0 c0, .slice a1 n1 c1, .slice a2 n2 c2, .slice a3 n3 c3] 49 := by rw [← hW3, ← hTe]; exact Blk.new _ _ _
   have hE3 : EAt (fun b => b < T + 1) W3 (eC k nm fl bi a0 n0 c0 a1 n1 c1 a2 n2 c2 a3 n3 c3) E1 := (hE2.mono (fun b _ q => by have q' : b < T + 1 := q; show b < W1.heap.size; omega)).fr f3 (fun _ q => q.elim)
   have F3 : Fr (fun b => b = pb) w W3 := ((Fr.of_nil H1.out.1).comp f2).via f3
   have HT3 := Lib.hid (And.intro (f3.blk bT2 (fun q => q)) (And.intro bE3 (And.intro hE3 (And.intro (h2.fr f3) F3))))
   go_upto_region 2 with fail
   try rw [hTe]
   try rw [hW3]
   clear hTe hW3 f2 bT2 f3 bE3 hE3 F3 hE2 h2 sT HR1
   have HPK := Lib.hid (fun w' (f : Fr Nil W3 w') => qpeek_any (HT3.out.2.2.2.1.fr f))
   have hkp := peek_kind L s1
   obtain ⟨⟨tk, tx, tf, tb, tl⟩, htk⟩ : ∃ t, peekT L s1.at_ = t := ⟨_, rfl⟩
   rw [htk] at HPK hkp
   simp only at hkp
   go_wp2_with fail
   refine (HPK.out _ (by exact frA)).mono ?_
   rintro e w4 ⟨rfl, f4⟩
   unfold tokV
   have F34 : Fr Nil W3 w4 := Fr.comp (S := Nil) (by exact frA) f4
   obtain ⟨Tk, hTk⟩ : ∃ Tk, w4.heap.size = Tk := ⟨_, rfl⟩
   obtain ⟨W5, hW5⟩ : ∃ W5, w4.alloc (.cells #[.int .i64 tk, .string ⟨tx.toArray⟩, .bool tf, .int .u64 (tb : Int), .int .i64 (tl : Int)] 41) = W5 := ⟨_, rfl⟩
   have f5 : Fr Nil w4 W5 := by rw [← hW5]; exact frA
   have bK5 : Blk W5 Tk #[.int .i64 tk, .string ⟨tx.toArray⟩, .bool tf, .int .u64 (tb : Int), .int .i64 (tl : Int)] 41 := by rw [← hW5, ← hTk]; exact Blk.new _ _ _
   have F35 := F34.comp f5
   have sE := HT3.out.2.1.lt
   have sF := F34.size
   have hTeTk : Te < Tk := by omega
   have bT5 := F35.blk HT3.out.1 (fun q => q)
   have bE5 := F35.blk HT3.out.2.1 (fun q => q)
   have H5 := Lib.hid (And.intro bT5 (And.intro bE5 (And.intro bK5 (And.intro (HT3.out.2.2.1.fr F35 (fun _ q => q.elim)) (And.intro (HT3.out.2.2.2.1.fr F35) (HT3.out.2.2.2.2.via F35))))))
   go_upto_region 3 with fail
   try rw [hTk]
   try rw [hW5]
   have u0 := bK5.cell 0
   have u1 := bK5.cell 1
   have u2 := bK5.cell 2
   have u3 := bK5.cell 3
   have u4 := bK5.cell 4
   simp at u0 u1 u2 u3 u4
   have uf := bK5.free
   have ul := bK5.lt
   have x0 := bE5.cell 0
   have x1 := bE5.cell 1
   have x2 := bE5.cell 2
   have x3 := bE5.cell 3
   have x4 := bE5.cell 4
   have x5 := bE5.cell 5
   have x6 := bE5.cell 6
   have x7 := bE5.cell 7
   simp at x0 x1 x2 x3 x4 x5 x6 x7
   have xf := bE5.free
   have xl := bE5.lt
   have hwT : w.heap.size ≤ T := Nat.le_of_eq H1.out.2.2.2.1
   have hne1 : ¬ T = Te := by omega
   have hne2 : ¬ Te = T := by omega
   have hne3 : ¬ Tk = T := by omega
   have hne4 : ¬ T = Tk := by omega
   have hne5 : ¬ Tk = pb := by omega
   have hne6 : ¬ Te = pb := by omega
   have hne7 : ¬ pb = Tk := by omega
   have hne8 : ¬ pb = Te := by omega
   clear hTk hW5 f4 f5 F34 F35 bT5 bE5 bK5 HPK
   by_cases hx : tk = 4
   · subst hx
     have hlt : s1.at_ < L.length := peek_lt (k := 4) (by rw [htk]) (by decide)
     have eT : tokenF L 4 s1 = (⟨4, tx, tf, tb, tl⟩, { s1 with at_ := s1.at_ + 1 }) := by unfold tokenF; rw [if_pos ⟨hs10, hkp⟩]; unfold peekT at htk; rw [htk]
     have eR := HRO.out
     rw [if_pos ⟨hs10, hkp⟩, eT] at eR
     simp only at eR
     obtain ⟨⟨E2, s3⟩, hr2⟩ : ∃ r, rowF L (exprF L d) { s1 with at_ := s1.at_ + 1 } = r := ⟨_, rfl⟩
     rw [hr2] at eR
     simp only at eR
     have HRE := Lib.hid eR
     have HR2 : Hid (∀ w', QAt w' pb vT L (s1.at_ + 1) dp → Calls Tryz.prog 125 #[.pointer (some ⟨pb, 0, none⟩)] w' (QEnds pb vT L dp w' (fun w'' v => EVal (fun b => b < w'.heap.size) w'' v E2) s3)) := Lib.hid (fun w' h' => by
      have h := qrow_any (s := { s1 with at_ := s1.at_ + 1 }) HX.out hs10 h'
      rw [hr2] at h
      exact h)
     have i3 : IntKind.i64.wrap ((s1.at_ : Int) + 1) = (s1.at_ : Int) + 1 := by rw [IntKind.wrap_i64]; omega
     have bp5 := H5.out.2.2.2.2.1.blk
     have p0 := bp5.cell 0
     have p1 := bp5.cell 1
     have p2 := bp5.cell 2
     simp at p0 p1 p2
     have pf := bp5.free
     have pl := bp5.lt
     obtain ⟨V, hV⟩ : ∃ V, W5.setCell ⟨pb, 1, none⟩ (.int .i64 ((s1.at_ : Int) + 1)) = V := ⟨_, rfl⟩
     have FV : Fr (fun b => b = pb) W5 V := by rw [← hV]; exact frG
     have hQV : QAt V pb vT L (s1.at_ + 1) dp := H5.out.2.2.2.2.1.to (at' := s1.at_ + 1) (dp' := dp) FV (by
      rw [← hV]
      (unfold Blk; simp (disch := first | omega | (simp; done) | (simp; omega)) only [hp_drew, hp_drewN, hp_alloc, hp_other, hp_same, hp_new, upd_cells, Option.map_some, (H5.out.2.2.2.2.1.blk).eq])
      simp) hlt
     have bTV := FV.blk H5.out.1 (fun q => by have q' : T = pb := q; omega)
     have HV := Lib.hid (And.intro hQV (And.intro bTV (And.intro (H5.out.2.2.2.1.fr FV (fun b q => by have q' : b = pb := q; show b < T + 1; omega)) (H5.out.2.2.2.2.2.comp FV))))
     have hTV := bTV.lt
     have g1 := FV.cell u1 (fun q => by have q' : Tk = pb := q; omega)
     have e0 := FV.cell x0 (fun q => by have q' : Te = pb := q; omega)
     have e1 := FV.cell x1 (fun q => by have q' : Te = pb := q; omega)
     have e2 := FV.cell x2 (fun q => by have q' : Te = pb := q; omega)
     have e3 := FV.cell x3 (fun q => by have q' : Te = pb := q; omega)
     have e4 := FV.cell x4 (fun q => by have q' : Te = pb := q; omega)
     have e5 := FV.cell x5 (fun q => by have q' : Te = pb := q; omega)
     have e6 := FV.cell x6 (fun q => by have q' : Te = pb := q; omega)
     have e7 := FV.cell x7 (fun q => by have q' : Te = pb := q; omega)
     have HS0 : Hid (∀ w', Fr (fun b => b = pb ∨ b = T) V w' → w'.cell? ⟨Tk, 1, none⟩ = some (.string ⟨tx.toArray⟩) ∧ w'.cell? ⟨Te, 0, none⟩ = some (.int .i64 (k : Int)) ∧ w'.cell? ⟨Te, 1, none⟩ = some (.string nm) ∧ w'.cell? ⟨Te, 2, none⟩ = some (.bool fl) ∧ w'.cell? ⟨Te, 3, none⟩ = some (.int .u64 (bi : Int)) ∧ w'.cell? ⟨Te, 4, none⟩ = some (.slice a0 n0 c0) ∧ w'.cell? ⟨Te, 5, none⟩ = some (.slice a1 n1 c1) ∧ w'.cell? ⟨Te, 6, none⟩ = some (.slice a2 n2 c2) ∧ w'.cell? ⟨Te, 7, none⟩ = some (.slice a3 n3 c3)) := Lib.hid (fun w' f => ⟨f.cell g1 (fun q => q.elim hne5 hne3), f.cell e0 (fun q => q.elim hne6 hne2), f.cell e1 (fun q => q.elim hne6 hne2), f.cell e2 (fun q => q.elim hne6 hne2), f.cell e3 (fun q => q.elim hne6 hne2), f.cell e4 (fun q => q.elim hne6 hne2), f.cell e5 (fun q => q.elim hne6 hne2), f.cell e6 (fun q => q.elim hne6 hne2), f.cell e7 (fun q => q.elim hne6 hne2)⟩)
     clear htk hkp eT hr2 bp5 hlt eR
     go_upto_region 5 with fail
     try rw [hV]
     clear hV p0 p1 p2 pf pl bTV FV hQV g1 e0 e1 e2 e3 e4 e5 e6 e7 u0 u1 u2 u3 u4 uf ul x0 x1 x2 x3 x4 x5 x6 x7 xf xl
     by_cases h30 : s3.e = 0
     · have hok : ∀ w', Fr Nil V w' → Calls Tryz.prog 125 #[.pointer (some ⟨pb, 0, none⟩)] w' fun e w'' => ∃ kq nmq flq biq a0q n0q c0q a1q n1q c1q a2q n2q c2q a3q n3q c3q, e = .returned (.agg (eC kq nmq flq biq a0q n0q c0q a1q n1q c1q a2q n2q c2q a3q n3q c3q).toArray) ∧ EAt (fun b => b < T + 1) w'' (eC kq nmq flq biq a0q n0q c0q a1q n1q c1q a2q n2q c2q a3q n3q c3q) E2 ∧ QAt w'' pb vT L s3.at_ dp ∧ Fr (fun b => b = pb) V w'' := fun w' f => (HR2.out w' (HV.out.1.fr f)).mono (fun e w'' q => by
        rcases q with ⟨_, v, rfl, ⟨cs, rfl, hE⟩, hq, f2⟩ | q
        · obtain ⟨kq, nmq, flq, biq, a0q, n0q, c0q, a1q, n1q, c1q, a2q, n2q, c2q, a3q, n3q, c3q, rfl⟩ := hE.form
          have z1 := f.size
          have z2 := HV.out.2.1.lt
          exact ⟨kq, nmq, flq, biq, a0q, n0q, c0q, a1q, n1q, c1q, a2q, n2q, c2q, a3q, n3q, c3q, rfl, hE.mono (fun b _ q => by omega), hq, (Fr.of_nil f).comp f2⟩
        · exact absurd h30 q.1)
       have HOk := Lib.hid hok
       clear hok
       have hS0 := HS0.out V (Fr.refl _ _)
       go_region_held3 (fun w' => w'.cell? ⟨Tk, 1, none⟩ = some (.string ⟨tx.toArray⟩) ∧ w'.cell? ⟨Te, 0, none⟩ = some (.int .i64 (k : Int)) ∧ w'.cell? ⟨Te, 1, none⟩ = some (.string nm) ∧ w'.cell? ⟨Te, 2, none⟩ = some (.bool fl) ∧ w'.cell? ⟨Te, 3, none⟩ = some (.int .u64 (bi : Int)) ∧ w'.cell? ⟨Te, 4, none⟩ = some (.slice a0 n0 c0) ∧ w'.cell? ⟨Te, 5, none⟩ = some (.slice a1 n1 c1) ∧ w'.cell? ⟨Te, 6, none⟩ = some (.slice a2 n2 c2) ∧ w'.cell? ⟨Te, 7, none⟩ = some (.slice a3 n3 c3)) (with_reducible refine HS0.out _ ?_; (first | exact HG4.out | (refine HG4.out.comp ?_; (repeat (first | (with_reducible exact Fr.refl _ _) | (with_reducible refine Fr.drew ?_) | (with_reducible refine Fr.alloc ?_ _) | (with_reducible refine Fr.set ?_ _ _ (fun _ => .inr rfl)))); done) | (refine Fr.of_nil ?_; (exact frA); done))) (first
        | (go_at_call 125; refine (HOk.out _ (by first | assumption | exact frA)).mono ?_; rintro rr w4 ⟨kq, nmq, flq, biq, a0q, n0q, c0q, a1q, n1q, c1q, a2q, n2q, c2q, a3q, n3q, c3q, rfl, hE4, h4, f4⟩; unfold eC; have HG4 : Hid (Fr (fun b => b = pb ∨ b = T) V w4) := Lib.hid (f4.mono (fun b _ q => .inl q)); have bT4 := f4.blk HV.out.2.1 (fun q => by have q' : T = pb := q; omega); have y0 := bT4.cell 0; have y1 := bT4.cell 1; have y2 := bT4.cell 2; have y3 := bT4.cell 3; have y4 := bT4.cell 4; have y5 := bT4.cell 5; have y6 := bT4.cell 6; have y7 := bT4.cell 7; simp at y0 y1 y2 y3 y4 y5 y6 y7; have yf := bT4.free; have yl := bT4.lt; have H4 := Lib.hid (And.intro hE4 (And.intro h4 (And.intro (HV.out.2.2.1.fr f4 (fun b q => by have q' : b = pb := q; show b < T + 1; omega)) (HV.out.2.2.2.comp f4)))); clear hE4 h4 f4 bT4))
       all_goals
        have fin : Hid (∀ wf, Fr (fun b => b = T) w4 wf → Blk wf w4.heap.size #[.int .i64 (k : Int), .string nm, .bool fl, .int .u64 (bi : Int), .slice a0 n0 c0, .slice a1 n1 c1, .slice a2 n2 c2, .slice a3 n3 c3, .int .i64 (kq : Int), .string nmq, .bool flq, .int .u64 (biq : Int), .slice a0q n0q c0q, .slice a1q n1q c1q, .slice a2q n2q c2q, .slice a3q n3q c3q] 49 → QEnds pb vT L dp w (fun w' v => EVal (fun b => b < w.heap.size) w' v R.1) R.2 (.returned (.agg #[.int .i64 5, .string ⟨tx.toArray⟩, .bool false, .int .u64 0, .slice none 0 0, .slice (some ⟨w4.heap.size, 0, none⟩) 2 2, .slice none 0 0, .slice none 0 0])) wf) := Lib.hid (fun wf fz bk => by
         have FF : Fr (fun b => b = pb) w wf := H4.out.2.2.2.trans fz (fun b hb q => by have q' : b = T := q; omega)
         have hz4 : T < w4.heap.size := yl
         rw [HRE.out]
         refine .inl ⟨h30, _, rfl, ⟨_, rfl, EAt.app (ks := [E1, E2]) (kc := fun i => if i = 0 then eC k nm fl bi a0 n0 c0 a1 n1 c1 a2 n2 c2 a3 n3 c3 else eC kq nmq flq biq a0q n0q c0q a1q n1q c1q a2q n2q c2q a3q n3q c3q) 5 tx (RowC.two bk rfl rfl (by omega)) (fun i hi => ?_)⟩, ⟨fz.blk H4.out.2.1.blk (fun q => by have q' : pb = T := q; omega), H1.out.2.2.1.toks.fr FF (fun _ q => q), H4.out.2.1.le, H4.out.2.1.sz⟩, FF⟩
         have hi2 : i = 0 ∨ i = 1 := by simp at hi; omega
         rcases hi2 with rfl | rfl
         · exact (H4.out.2.2.1.fr fz (fun b q => by have q' : b = T := q; show b < T + 1; omega)).mono (fun b _ q => by have q' : b < w.heap.size := q; omega)
         · exact (H4.out.1.fr fz (fun b q => by have q' : b = T := q; show b < T + 1; omega)).mono (fun b _ q => by have q' : b < w.heap.size := q; omega))
        go_wp2
        (try simp only [Exit.inBlock, Exit.then])
        refine bodyPost_ret (v := .agg #[.int .i64 5, .string ⟨tx.toArray⟩, .bool false, .int .u64 0, .slice none 0 0, .slice (some ⟨w4.heap.size, 0, none⟩) 2 2, .slice none 0 0, .slice none 0 0]) (by simp [results, Tryz.results107, go_sem, *]) rfl ?_
        exact fin.out _ (by exact frG) (by exact blk0)
     · have hbad : ∀ w', Fr Nil V w' → Calls Tryz.prog 125 #[.pointer (some ⟨pb, 0, none⟩)] w' (Broke pb vT w' s3) := fun w' f => (HR2.out w' (HV.out.1.fr f)).mono (fun e w'' q => q.resolve_left (fun z => h30 z.1))
       have HBad := Lib.hid hbad
       clear hbad
       refine wp_region_held_drew (S := fun w' => w'.cell? ⟨Tk, 1, none⟩ = some (.string ⟨tx.toArray⟩) ∧ w'.cell? ⟨Te, 0, none⟩ = some (.int .i64 (k : Int)) ∧ w'.cell? ⟨Te, 1, none⟩ = some (.string nm) ∧ w'.cell? ⟨Te, 2, none⟩ = some (.bool fl) ∧ w'.cell? ⟨Te, 3, none⟩ = some (.int .u64 (bi : Int)) ∧ w'.cell? ⟨Te, 4, none⟩ = some (.slice a0 n0 c0) ∧ w'.cell? ⟨Te, 5, none⟩ = some (.slice a1 n1 c1) ∧ w'.cell? ⟨Te, 6, none⟩ = some (.slice a2 n2 c2) ∧ w'.cell? ⟨Te, 7, none⟩ = some (.slice a3 n3 c3)) (by kernel_rfl) (HS0.out _ (by exact frA)) (fun hHeld => ?_)
       obtain ⟨W6, hW6⟩ : ∃ W, V.drew = W := ⟨_, rfl⟩
       have f6 : Fr Nil V W6 := by rw [← hW6]; exact frA
       rw [hW6] at hHeld ⊢
       clear hW6
       refine held_take (i := 0) (v := ?_) rfl (by kernel_rfl) (by kernel_rfl) (by kernel_rfl) (fun _ _ _ h => h) (by rfl) (by assumption) ?_ ?_
       rotate_left
       · (intro w hSw; (try dsimp only at hSw); go_simp; try with_reducible rfl)
       try simp only [Act.put, List.setIfInBounds_toArray, List.set_cons_zero, List.set_cons_succ]
       refine held_take (i := 1) (v := ?_) rfl (by kernel_rfl) (by kernel_rfl) (by kernel_rfl) (fun _ _ _ h => h) (by rfl) (by assumption) ?_ ?_
       rotate_left
       · (intro w hSw; (try dsimp only at hSw); go_simp; try with_reducible rfl)
       try simp only [Act.put, List.setIfInBounds_toArray, List.set_cons_zero, List.set_cons_succ]
       refine held_take (i := 2) (v := ?_) rfl (by kernel_rfl) (by kernel_rfl) (by kernel_rfl) (fun _ _ _ h => h) (by rfl) (by assumption) ?_ ?_
       rotate_left
       · (intro w hSw; (try dsimp only at hSw); go_simp; try with_reducible rfl)
       try simp only [Act.put, List.setIfInBounds_toArray, List.set_cons_zero, List.set_cons_succ]
       refine held_take (i := 3) (v := ?_) rfl (by kernel_rfl) (by kernel_rfl) (by kernel_rfl) (fun _ _ _ h => h) (by rfl) (by assumption) ?_ ?_
       rotate_left
       · (intro w hSw; (try dsimp only at hSw); go_simp; try with_reducible rfl)
       try simp only [Act.put, List.setIfInBounds_toArray, List.set_cons_zero, List.set_cons_succ]
       refine held_one (i := 4) rfl (by kernel_rfl) (fun Kc hKc => ?_)
       go_simp
       refine (HBad.out _ f6).mono ?_
       rintro r w7 hbr
       have hb2 := hbr.back (HV.out.2.2.2.via f6)
       obtain ⟨_, rfl, _⟩ := hbr
       refine ⟨rfl, .inr ?_⟩
       rw [HRE.out]
       exact hb2
   · have d4 : (tk == 4) = false := by simpa using hx
     have eR := HRO.out
     rw [if_neg (fun q => hx (by rw [← hkp]; exact q.2))] at eR
     have HRE := Lib.hid eR
     have z0 := H5.out.1.cell 0
     have z1 := H5.out.1.cell 1
     have z2 := H5.out.1.cell 2
     have z3 := H5.out.1.cell 3
     have z4 := H5.out.1.cell 4
     have z5 := H5.out.1.cell 5
     have z6 := H5.out.1.cell 6
     have z7 := H5.out.1.cell 7
     simp at z0 z1 z2 z3 z4 z5 z6 z7
     have zf := H5.out.1.free
     have zl := H5.out.1.lt
     have fin : Hid (∀ wf, Fr (fun b => b = T) W5 wf → QEnds pb vT L dp w (fun w' v => EVal (fun b => b < w.heap.size) w' v R.1) R.2 (.returned (.agg #[.int .i64 (k : Int), .string nm, .bool fl, .int .u64 (bi : Int), .slice a0 n0 c0, .slice a1 n1 c1, .slice a2 n2 c2, .slice a3 n3 c3])) wf) := Lib.hid (fun wf fz => by
      have FF : Fr (fun b => b = pb) w wf := H5.out.2.2.2.2.2.trans fz (fun b hb q => by have q' : b = T := q; omega)
      rw [HRE.out]
      exact .inl ⟨hs10, _, rfl, ⟨_, rfl, (H5.out.2.2.2.1.fr fz (fun b q => by have q' : b = T := q; show b < T + 1; omega)).mono (fun b _ q => by have q' : b < w.heap.size := q; omega)⟩, ⟨fz.blk H5.out.2.2.2.2.1.blk (fun q => by have q' : pb = T := q; omega), H1.out.2.2.1.toks.fr FF (fun _ q => q), H5.out.2.2.2.2.1.le, H5.out.2.2.2.2.1.sz⟩, FF⟩)
     clear htk hkp eR
     go_wp2
     (try simp only [Exit.inBlock, Exit.then])
     refine bodyPost_ret (v := .agg #[.int .i64 (k : Int), .string nm, .bool fl, .int .u64 (bi : Int), .slice a0 n0 c0, .slice a1 n1 c1, .slice a2 n2 c2, .slice a3 n3 c3]) (by simp [results, Tryz.results107, go_sem, *]) rfl ?_
     exact fin.out _ (by exact frG)
 · have hb2 := hbr.back (Fr.of_nil H1.out.1)
   obtain ⟨hne, rfl, _⟩ := hbr
   refine ⟨rfl, .inr ?_⟩
   rw [HRO.out, if_neg (fun q => hne q.1)]
   exact hb2
end
section
variable {w : World} {pb : Nat} {vT : Value} {L : List TokV} {s : PS} {dp : Int} {d : Nat}
theorem qalt_any (hex : QReads pb vT L d dp) (hs : s.e = 0) (h : QAt w pb vT L s.at_ dp) :
 Calls Tryz.prog 124 #[.pointer (some ⟨pb, 0, none⟩)] w (QEnds pb vT L dp w (fun w' v => AVal (fun b => b < w.heap.size) w' v (altF L (exprF L d) s).1) (altF L (exprF L d) s).2) := by
 have htf0 := run_tok0
 have htf1 := run_tok1
 obtain ⟨T, hT⟩ : ∃ T, w.heap.size = T := ⟨_, rfl⟩
 obtain ⟨W0, hW0⟩ : ∃ W0, w.alloc (.cells #[.int .i64 0, .string ⟨#[]⟩, .bool false, .int .u64 0, .slice none 0 0, .int .i64 0, .string ⟨#[]⟩, .bool false, .int .u64 0, .slice none 0 0, .slice none 0 0, .slice none 0 0, .slice none 0 0] 120) = W0 := ⟨_, rfl⟩
 obtain ⟨Ta, hTa⟩ : ∃ Ta, T + 1 = Ta := ⟨_, rfl⟩
 have hz0 : W0.heap.size = Ta := by rw [← hW0, ← hTa, ← hT]; simp
 obtain ⟨W1, hW1⟩ : ∃ W1, W0.alloc (.cells #[.int .i64 0, .string ⟨#[]⟩, .bool false, .int .u64 0, .slice none 0 0, .int .i64 0, .string ⟨#[]⟩, .bool false, .int .u64 0, .slice none 0 0, .slice none 0 0, .slice none 0 0, .slice none 0 0] 120) = W1 := ⟨_, rfl⟩
 have f0 : Fr Nil w W0 := by rw [← hW0]; exact frA
 have f01 : Fr Nil W0 W1 := by rw [← hW1]; exact frA
 have f1 : Fr Nil w W1 := f0.comp f01
 have bT0 : Blk W0 T #[.int .i64 0, .string ⟨#[]⟩, .bool false, .int .u64 0, .slice none 0 0, .int .i64 0, .string ⟨#[]⟩, .bool false, .int .u64 0, .slice none 0 0, .slice none 0 0, .slice none 0 0, .slice none 0 0] 120 := by rw [← hW0, ← hT]; exact Blk.new _ _ _
 have bT1 := f01.blk bT0 (fun q => q)
 have bA1 : Blk W1 Ta #[.int .i64 0, .string ⟨#[]⟩, .bool false, .int .u64 0, .slice none 0 0, .int .i64 0, .string ⟨#[]⟩, .bool false, .int .u64 0, .slice none 0 0, .slice none 0 0, .slice none 0 0, .slice none 0 0] 120 := by rw [← hW1, ← hz0]; exact Blk.new _ _ _
 have hTTa : T < Ta := by omega
 have hpT : pb < T := by rw [← hT]; exact h.blk.lt
 have hwT : w.heap.size ≤ T := Nat.le_of_eq hT
 have hsz := h.sz
 have hkp := peek_kind L s
 have hp := fun w' (f : Fr Nil W1 w') => qpeek_any (h.fr (f1.comp f))
 obtain ⟨⟨tk, tx, tf, tb, tl⟩, htk⟩ : ∃ t, peekT L s.at_ = t := ⟨_, rfl⟩
 rw [htk] at hp hkp
 simp only at hkp
 obtain ⟨R, hR⟩ : ∃ R, altF L (exprF L d) s = R := ⟨_, rfl⟩
 rw [hR]
 unfold altF altHead at hR
 have HP := Lib.hid hp
 have HRO := Lib.hid hR
 have H1 := Lib.hid (And.intro f1 (And.intro bT1 (And.intro bA1 (And.intro h hs))))
 have HX := Lib.hid hex
 have HW01 := Lib.hid (And.intro hT (And.intro hW0 (And.intro hTa hW1)))
 clear f0 f01 f1 bT0 bT1 bA1 h hex hR hT hW0 hTa hW1 hz0 hp hs
 go_enter Tryz.func124, Tryz.ntmps124
 go_upto_region 2 with fail
 try rw [HW01.out.1]
 try rw [HW01.out.2.2.1]
 try rw [HW01.out.2.1]
 try rw [HW01.out.2.2.2]
 clear HW01
 go_wp2_with fail
 refine (HP.out W1 (Fr.refl _ _)).mono ?_
 rintro e w2 ⟨rfl, f2⟩
 unfold tokV
 obtain ⟨Tk, hTk⟩ : ∃ Tk, w2.heap.size = Tk := ⟨_, rfl⟩
 obtain ⟨W5, hW5⟩ : ∃ W5, w2.alloc (.cells #[.int .i64 tk, .string ⟨tx.toArray⟩, .bool tf, .int .u64 (tb : Int), .int .i64 (tl : Int)] 41) = W5 := ⟨_, rfl⟩
 have f5 : Fr Nil w2 W5 := by rw [← hW5]; exact frA
 have bK5 : Blk W5 Tk #[.int .i64 tk, .string ⟨tx.toArray⟩, .bool tf, .int .u64 (tb : Int), .int .i64 (tl : Int)] 41 := by rw [← hW5, ← hTk]; exact Blk.new _ _ _
 have F15 := f2.comp f5
 have hTaTk : Ta < Tk := by rw [← hTk]; exact (f2.blk H1.out.2.2.1 (fun q => q)).lt
 have bT5 := F15.blk H1.out.2.1 (fun q => q)
 have bA5 := F15.blk H1.out.2.2.1 (fun q => q)
 have F5 := H1.out.1.comp F15
 have H5 := Lib.hid (And.intro bT5 (And.intro bA5 (And.intro bK5 (And.intro (H1.out.2.2.2.1.fr F5) F5))))
 have HW5 := Lib.hid (And.intro hTk hW5)
 clear hTk hW5
 go_upto_region 3 with fail
 try rw [HW5.out.1]
 try rw [HW5.out.2]
 have u0 := bK5.cell 0
 have u1 := bK5.cell 1
 have u2 := bK5.cell 2
 have u3 := bK5.cell 3
 have u4 := bK5.cell 4
 simp at u0 u1 u2 u3 u4
 have uf := bK5.free
 have ul := bK5.lt
 have bp5 := H5.out.2.2.2.1.blk
 have p0 := bp5.cell 0
 have p1 := bp5.cell 1
 have p2 := bp5.cell 2
 simp at p0 p1 p2
 have pf := bp5.free
 have pl := bp5.lt
 have i3 : IntKind.i64.wrap ((s.at_ : Int) + 1) = (s.at_ : Int) + 1 := by rw [IntKind.wrap_i64]; have := H1.out.2.2.2.1.le; omega
 have hne1 : ¬ T = Ta := by omega
 have hne2 : ¬ Ta = T := by omega
 have hne3 : ¬ Tk = T := by omega
 have hne4 : ¬ T = Tk := by omega
 have hne5 : ¬ Tk = pb := by omega
 have hne6 : ¬ Ta = pb := by omega
 have hne7 : ¬ pb = Tk := by omega
 have hne8 : ¬ pb = Ta := by omega
 have hne9 : ¬ Tk = Ta := by omega
 have hne10 : ¬ Ta = Tk := by omega
 clear f2 f5 F15 bT5 bA5 bK5 F5 HW5 HP bp5
 have hs := H1.out.2.2.2.2
 by_cases h2 : tk = 2
 · subst h2
   have hlt : s.at_ < L.length := peek_lt (k := 2) (by rw [htk]) (by decide)
   have eR := HRO.out
   rw [if_pos hkp, tok_peek hs (by rw [htk]), htk] at eR
   simp only at eR
   have hne := names_e (L := L) (fuelP L) [] { s with at_ := s.at_ + 1 } hs
   have hnm := fun w' (h' : QAt w' pb vT L (s.at_ + 1) dp) => qnames_any (s := { s with at_ := s.at_ + 1 }) hs h'
   obtain ⟨⟨ns, s1⟩, hns⟩ : ∃ r, namesF L (fuelP L) false [] { s with at_ := s.at_ + 1 } = r := ⟨_, rfl⟩
   rw [hns] at eR hne hnm
   simp only at eR hne hnm
   have hs10 : s1.e = 0 := hne
   have HRS := Lib.hid eR.symm
   obtain ⟨n, hn⟩ : ∃ n, ns.length = n := ⟨_, rfl⟩
   rw [hn] at hnm
   have HNM := Lib.hid hnm
   have HN := Lib.hid hn
   obtain ⟨V, hV⟩ : ∃ V, W5.setCell ⟨pb, 1, none⟩ (.int .i64 ((s.at_ : Int) + 1)) = V := ⟨_, rfl⟩
   have FV : Fr (fun b => b = pb) W5 V := by rw [← hV]; exact frG
   have hQV : QAt V pb vT L (s.at_ + 1) dp := H5.out.2.2.2.1.to (at' := s.at_ + 1) (dp' := dp) FV (by
    rw [← hV]
    (unfold Blk; simp (disch := first | omega | (simp; done) | (simp; omega)) only [hp_drew, hp_drewN, hp_alloc, hp_other, hp_same, hp_new, upd_cells, Option.map_some, (H5.out.2.2.2.1.blk).eq])
    simp) hlt
   have g1 := FV.cell u1 (fun q => by have q' : Tk = pb := q; omega)
   have HV1 := Lib.hid (And.intro hQV (And.intro (FV.blk H5.out.2.1 (fun q => by have q' : Ta = pb := q; omega)) (And.intro (FV.blk H5.out.1 (fun q => by have q' : T = pb := q; omega)) ((Fr.of_nil H5.out.2.2.2.2).comp FV))))
   have HK4 : Hid (∀ w', Fr (fun b => b = pb ∨ b = Ta) V w' → w'.cell? ⟨Tk, 1, none⟩ = some (.string ⟨tx.toArray⟩)) := Lib.hid (fun w' f => f.cell g1 (fun q => q.elim hne5 hne9))
   have HV0 := Lib.hid hV
   clear hV FV hQV eR hns hne hnm htk hkp hlt hn g1
   go_upto_region 7 with fail
   try rw [HV0.out]
   clear HV0 p0 p1 p2 pf pl u0 u1 u2 u3 u4 uf ul
   have hS0 := HK4.out V (Fr.refl _ _)
   go_region_held3 (fun w' => w'.cell? ⟨Tk, 1, none⟩ = some (.string ⟨tx.toArray⟩)) (with_reducible refine HK4.out _ ?_; (first | exact HG4.out | (refine HG4.out.comp ?_; (repeat (first | (with_reducible exact Fr.refl _ _) | (with_reducible refine Fr.drew ?_) | (with_reducible refine Fr.set ?_ _ _ (fun _ => .inr rfl)))); done) | (refine Fr.of_nil ?_; (exact frA); done))) (first
    | (go_at_call 101; refine (HNM.out _ (HV1.out.1.fr (by first | assumption | exact frA))).mono ?_; rintro rr w4 ⟨v4, rfl, ho4, h4, f4⟩; obtain ⟨va, vc, rfl⟩ := owns_shape ho4; have HG4 : Hid (Fr (fun b => b = pb ∨ b = Ta) V w4) := Lib.hid (Fr.mono (Fr.comp (S := fun b => b = pb) (by exact frG) f4) (fun b _ q => .inl q)); have F4 : Fr (fun b => b = pb) V w4 := Fr.comp (S := fun b => b = pb) (by exact frG) f4; have bA4 := F4.blk HV1.out.2.1 (fun q => by have q' : Ta = pb := q; omega); have hlV := HV1.out.2.1.lt; have y0 := bA4.cell 0; have y1 := bA4.cell 1; have y2 := bA4.cell 2; have y3 := bA4.cell 3; have y4 := bA4.cell 4; have y5 := bA4.cell 5; have y6 := bA4.cell 6; have y7 := bA4.cell 7; have y8 := bA4.cell 8; have y9 := bA4.cell 9; have y10 := bA4.cell 10; have y11 := bA4.cell 11; have y12 := bA4.cell 12; simp at y0 y1 y2 y3 y4 y5 y6 y7 y8 y9 y10 y11 y12; have yf := bA4.free; have yl := bA4.lt; have hrow : RowS (fun b => b < Ta + 1) w4 (.slice va n vc) ns := RowS.of_own (by rw [HN.out]; exact ho4) (fun b q => (by have q' : b < Ta + 1 := q; simp; omega)); have H4 := Lib.hid (And.intro hrow (And.intro h4 (And.intro bA4 (And.intro (F4.blk HV1.out.2.2.1 (fun q => by have q' : T = pb := q; omega)) (HV1.out.2.2.2.comp F4))))); clear hrow h4 f4 F4 bA4 ho4))
   all_goals
    obtain ⟨V, hV⟩ : ∃ V, (((((((((((((w4).setCell ⟨Ta, 0, none⟩ (.int .i64 0)).setCell ⟨Ta, 1, none⟩ (.string ⟨tx.toArray⟩)).setCell ⟨Ta, 2, none⟩ (.bool false)).setCell ⟨Ta, 3, none⟩ (.int .u64 0)).setCell ⟨Ta, 4, none⟩ (.slice va n vc)).setCell ⟨Ta, 5, none⟩ (.int .i64 0)).setCell ⟨Ta, 6, none⟩ (.string ⟨#[]⟩)).setCell ⟨Ta, 7, none⟩ (.bool false)).setCell ⟨Ta, 8, none⟩ (.int .u64 0)).setCell ⟨Ta, 9, none⟩ (.slice none 0 0)).setCell ⟨Ta, 10, none⟩ (.slice none 0 0)).setCell ⟨Ta, 11, none⟩ (.slice none 0 0)).setCell ⟨Ta, 12, none⟩ (.slice none 0 0) = V := ⟨_, rfl⟩
    have FV : Fr (fun b => b = Ta) w4 V := by rw [← hV]; exact frG
    have FwV : Fr (fun b => b = pb) w V := H4.out.2.2.2.2.trans FV (fun b hb q => by have q' : b = Ta := q; omega)
    have bAV : Blk V Ta #[.int .i64 0, .string ⟨tx.toArray⟩, .bool false, .int .u64 0, .slice va n vc, .int .i64 0, .string ⟨#[]⟩, .bool false, .int .u64 0, .slice none 0 0, .slice none 0 0, .slice none 0 0, .slice none 0 0] 120 := by
     rw [← hV]
     (unfold Blk; simp (disch := first | omega | (simp; done) | (simp; omega)) only [hp_drew, hp_drewN, hp_alloc, hp_other, hp_same, hp_new, upd_cells, Option.map_some, (H4.out.2.2.1).eq])
     simp
    have hQV : QAt V pb vT L s1.at_ dp := ⟨FV.blk H4.out.2.1.blk (fun q => by have q' : pb = Ta := q; omega), H1.out.2.2.2.1.toks.fr FwV (fun _ q => q), H4.out.2.1.le, H4.out.2.1.sz⟩
    have HV := Lib.hid (And.intro hQV (And.intro bAV (And.intro (FV.blk H4.out.2.2.2.1 (fun q => by have q' : T = Ta := q; omega)) (And.intro (RowS.fr H4.out.1 FV (fun b q => by have q' : b = Ta := q; show b < Ta + 1; omega)) FwV))))
    have HV0 := Lib.hid hV
    clear hV FV FwV bAV hQV
    go_upto_region 11 with fail
    rw [HV0.out]
    clear HV0 y0 y1 y2 y3 y4 y5 y6 y7 y8 y9 y10 y11 y12 yf yl
    obtain ⟨s2, hs2⟩ : ∃ s2, needF L [45, 62] s1 = s2 := ⟨_, rfl⟩
    have hWn := qwant_any [45, 62] hs10 HV.out.1
    rw [hs2] at hWn
    have eR := HRS.out
    rw [hs2] at eR
    obtain ⟨⟨E, s3⟩, hr3⟩ : ∃ r, exprF L d s2 = r := ⟨_, rfl⟩
    have hexs : ∀ w', s2.e = 0 → QAt w' pb vT L s2.at_ dp → Calls Tryz.prog 76 #[.pointer (some ⟨pb, 0, none⟩)] w' (QEnds pb vT L dp w' (fun w'' v => EVal (fun b => b < w'.heap.size) w'' v E) s3) := fun w' q h' => by
     have h := HX.out w' s2 q h'
     rw [hr3] at h
     exact h
    have hstop : s2.e ≠ 0 → s3 = s2 := fun q => by
     have h := expr_stop (L := L) (d := d) q
     rw [hr3] at h
     injection h
    rw [hr3] at eR
    have HRE := Lib.hid (And.intro eR hstop)
    have HEx := Lib.hid hexs
    have HWn := Lib.hid hWn
    have bAl := HV.out.2.1.lt
    clear hs2 hWn eR hr3 hexs hstop
    go_wp2_with fail
    refine HWn.out.mono ?_
    rintro e w6 (⟨hs20, v6, rfl, rfl, h6, f6⟩ | hbr)
    · have bA6 := f6.blk HV.out.2.1 (fun q => by have q' : Ta = pb := q; omega)
      have bT6 := f6.blk HV.out.2.2.1 (fun q => by have q' : T = pb := q; omega)
      have H6 := Lib.hid (And.intro h6 (And.intro bA6 (And.intro bT6 (And.intro (RowS.fr HV.out.2.2.2.1 f6 (fun b q => by have q' : b = pb := q; show b < Ta + 1; omega)) (HV.out.2.2.2.2.comp f6)))))
      have hz6 := bA6.lt
      clear h6 f6 bA6 bT6
      go_wp2_with fail
      refine (HEx.out _ hs20 H6.out.1).mono ?_
      rintro e w7 (⟨hs30, v7, rfl, ⟨cs, rfl, hE7⟩, h7, f7⟩ | hbr)
      · obtain ⟨k, nm, fl, bi, a0, n0, c0, a1, n1, c1, a2, n2, c2, a3, n3, c3, rfl⟩ := hE7.form
        unfold eC
        have bA7 := f7.blk H6.out.2.1 (fun q => by have q' : Ta = pb := q; omega)
        have bT7 := f7.blk H6.out.2.2.1 (fun q => by have q' : T = pb := q; omega)
        have x0 := bA7.cell 0
        have x1 := bA7.cell 1
        have x2 := bA7.cell 2
        have x3 := bA7.cell 3
        have x4 := bA7.cell 4
        have x5 := bA7.cell 5
        have x6 := bA7.cell 6
        have x7 := bA7.cell 7
        have x8 := bA7.cell 8
        have x9 := bA7.cell 9
        have x10 := bA7.cell 10
        have x11 := bA7.cell 11
        have x12 := bA7.cell 12
        simp at x0 x1 x2 x3 x4 x5 x6 x7 x8 x9 x10 x11 x12
        have xf := bA7.free
        have xl := bA7.lt
        have z0 := bT7.cell 0
        have z1 := bT7.cell 1
        have z2 := bT7.cell 2
        have z3 := bT7.cell 3
        have z4 := bT7.cell 4
        have z5 := bT7.cell 5
        have z6 := bT7.cell 6
        have z7 := bT7.cell 7
        have z8 := bT7.cell 8
        have z9 := bT7.cell 9
        have z10 := bT7.cell 10
        have z11 := bT7.cell 11
        have z12 := bT7.cell 12
        simp at z0 z1 z2 z3 z4 z5 z6 z7 z8 z9 z10 z11 z12
        have zf := bT7.free
        have zl := bT7.lt
        have hE7' : EAt (fun b => b < Ta + 1) w7 (eC k nm fl bi a0 n0 c0 a1 n1 c1 a2 n2 c2 a3 n3 c3) E := hE7.mono (fun b _ q => by have q' : b < Ta + 1 := q; omega)
        have H7 := Lib.hid (And.intro hE7' (And.intro h7 (And.intro (RowS.fr H6.out.2.2.2.1 f7 (fun b q => by have q' : b = pb := q; show b < Ta + 1; omega)) (H6.out.2.2.2.2.comp f7))))
        clear hE7 hE7' h7 f7 bA7 bT7
        have fin : Hid (∀ wf, Fr (fun b => b = T ∨ b = Ta) w7 wf → QEnds pb vT L dp w (fun w' v => AVal (fun b => b < w.heap.size) w' v R.1) R.2 (.returned (.agg #[.int .i64 0, .string ⟨tx.toArray⟩, .bool false, .int .u64 0, .slice va n vc, .int .i64 (k : Int), .string nm, .bool fl, .int .u64 (bi : Int), .slice a0 n0 c0, .slice a1 n1 c1, .slice a2 n2 c2, .slice a3 n3 c3])) wf) := Lib.hid (fun wf fz => by
         have FF : Fr (fun b => b = pb) w wf := H7.out.2.2.2.trans fz (fun b hb q => by rcases q with q | q <;> omega)
         rw [HRE.out.1]
         refine .inl ⟨hs30, _, rfl, ⟨.slice va n vc, _, rfl, ?_, ?_⟩, ⟨fz.blk H7.out.2.1.blk (fun q => by rcases q with q | q <;> omega), H1.out.2.2.2.1.toks.fr FF (fun _ q => q), H7.out.2.1.le, H7.out.2.1.sz⟩, FF⟩
         · exact RowC.mono (RowS.fr H7.out.2.2.1 fz (fun b q => by show b < Ta + 1; rcases q with q | q <;> omega)) (by decide) (fun b _ q => by have q' : b < w.heap.size := q; show b < Ta + 1; omega)
         · exact (H7.out.1.fr fz (fun b q => by show b < Ta + 1; rcases q with q | q <;> omega)).mono (fun b _ q => by have q' : b < w.heap.size := q; show b < Ta + 1; omega))
        go_wp2
        (try simp only [Exit.inBlock, Exit.then])
        refine bodyPost_ret (v := .agg #[.int .i64 0, .string ⟨tx.toArray⟩, .bool false, .int .u64 0, .slice va n vc, .int .i64 (k : Int), .string nm, .bool fl, .int .u64 (bi : Int), .slice a0 n0 c0, .slice a1 n1 c1, .slice a2 n2 c2, .slice a3 n3 c3]) (by simp [results, Tryz.results124, go_sem, *]) rfl ?_
        exact fin.out _ (by exact frG)
      · have hb2 := hbr.back H6.out.2.2.2.2
        obtain ⟨_, rfl, _⟩ := hbr
        refine ⟨rfl, .inr ?_⟩
        rw [HRE.out.1]
        exact hb2
    · have hb2 := hbr.back HV.out.2.2.2.2
      obtain ⟨hne, rfl, _⟩ := hbr
      refine ⟨rfl, .inr ?_⟩
      rw [HRE.out.1, HRE.out.2 hne]
      exact hb2
 by_cases h3 : tk = 3
 · subst h3
   have d2 : ((3 : Int) == 2) = false := by decide
   have hlt : s.at_ < L.length := peek_lt (k := 3) (by rw [htk]) (by decide)
   have eR := HRO.out
   rw [if_neg (by rw [hkp]; decide), if_pos hkp, tok_peek hs (by rw [htk]), htk] at eR
   simp only at eR
   obtain ⟨s1, hs1⟩ : ∃ s1 : PS, { s with at_ := s.at_ + 1 } = s1 := ⟨_, rfl⟩
   have hs10 : s1.e = 0 := by rw [← hs1]; exact hs
   have ha1 : s.at_ + 1 = s1.at_ := by rw [← hs1]
   rw [hs1] at eR
   have HRS := Lib.hid eR.symm
   obtain ⟨V, hV⟩ : ∃ V, ((((((((((((((W5).setCell ⟨pb, 1, none⟩ (.int .i64 ((s.at_ : Int) + 1))).setCell ⟨Ta, 0, none⟩ (.int .i64 1)).setCell ⟨Ta, 1, none⟩ (.string ⟨#[]⟩)).setCell ⟨Ta, 2, none⟩ (.bool tf)).setCell ⟨Ta, 3, none⟩ (.int .u64 (tb : Int))).setCell ⟨Ta, 4, none⟩ (.slice none 0 0)).setCell ⟨Ta, 5, none⟩ (.int .i64 0)).setCell ⟨Ta, 6, none⟩ (.string ⟨#[]⟩)).setCell ⟨Ta, 7, none⟩ (.bool false)).setCell ⟨Ta, 8, none⟩ (.int .u64 0)).setCell ⟨Ta, 9, none⟩ (.slice none 0 0)).setCell ⟨Ta, 10, none⟩ (.slice none 0 0)).setCell ⟨Ta, 11, none⟩ (.slice none 0 0)).setCell ⟨Ta, 12, none⟩ (.slice none 0 0) = V := ⟨_, rfl⟩
   have FV : Fr (fun b => b = pb ∨ b = Ta) W5 V := by rw [← hV]; exact frG
   have F := H5.out.2.2.2.2
   have FwV : Fr (fun b => b = pb) w V := (Fr.of_nil F).trans FV (fun b hb q => by rcases q with q | q; exact q; omega)
   have bAV : Blk V Ta #[.int .i64 1, .string ⟨#[]⟩, .bool tf, .int .u64 (tb : Int), .slice none 0 0, .int .i64 0, .string ⟨#[]⟩, .bool false, .int .u64 0, .slice none 0 0, .slice none 0 0, .slice none 0 0, .slice none 0 0] 120 := by
    rw [← hV]
    (unfold Blk; simp (disch := first | omega | (simp; done) | (simp; omega)) only [hp_drew, hp_drewN, hp_alloc, hp_other, hp_same, hp_new, upd_cells, Option.map_some, (H5.out.2.1).eq])
    simp
   have bpV : Blk V pb #[vT, .int .i64 ((s.at_ : Int) + 1), .int .i64 dp] 62 := by
    rw [← hV]
    (unfold Blk; simp (disch := first | omega | (simp; done) | (simp; omega)) only [hp_drew, hp_drewN, hp_alloc, hp_other, hp_same, hp_new, upd_cells, Option.map_some, (H5.out.2.2.2.1.blk).eq])
    simp
   have hQV : QAt V pb vT L s1.at_ dp := by
    rw [← ha1]
    exact ⟨bpV, H1.out.2.2.2.1.toks.fr FwV (fun _ q => q), hlt, H1.out.2.2.2.1.sz⟩
   have HV := Lib.hid (And.intro hQV (And.intro bAV (And.intro (FV.blk H5.out.1 (fun q => by rcases q with q | q <;> omega)) (And.intro (show RowS (fun b => b < Ta + 1) V (.slice none 0 0) [] from .nil) FwV))))
   have HV0 := Lib.hid hV
   clear hV FV F FwV bAV bpV hQV eR hs1 ha1 htk hkp
   have bA5 := H5.out.2.1
   have y0 := bA5.cell 0
   have y1 := bA5.cell 1
   have y2 := bA5.cell 2
   have y3 := bA5.cell 3
   have y4 := bA5.cell 4
   have y5 := bA5.cell 5
   have y6 := bA5.cell 6
   have y7 := bA5.cell 7
   have y8 := bA5.cell 8
   have y9 := bA5.cell 9
   have y10 := bA5.cell 10
   have y11 := bA5.cell 11
   have y12 := bA5.cell 12
   simp at y0 y1 y2 y3 y4 y5 y6 y7 y8 y9 y10 y11 y12
   have yf := bA5.free
   have yl := bA5.lt
   clear bA5
   go_upto_region 11 with fail
   rw [HV0.out]
   clear HV0 p0 p1 p2 pf pl u0 u1 u2 u3 u4 uf ul y0 y1 y2 y3 y4 y5 y6 y7 y8 y9 y10 y11 y12 yf yl
   obtain ⟨s2, hs2⟩ : ∃ s2, needF L [45, 62] s1 = s2 := ⟨_, rfl⟩
   have hWn := qwant_any [45, 62] hs10 HV.out.1
   rw [hs2] at hWn
   have eR := HRS.out
   rw [hs2] at eR
   obtain ⟨⟨E, s3⟩, hr3⟩ : ∃ r, exprF L d s2 = r := ⟨_, rfl⟩
   have hexs : ∀ w', s2.e = 0 → QAt w' pb vT L s2.at_ dp → Calls Tryz.prog 76 #[.pointer (some ⟨pb, 0, none⟩)] w' (QEnds pb vT L dp w' (fun w'' v => EVal (fun b => b < w'.heap.size) w'' v E) s3) := fun w' q h' => by
    have h := HX.out w' s2 q h'
    rw [hr3] at h
    exact h
   have hstop : s2.e ≠ 0 → s3 = s2 := fun q => by
    have h := expr_stop (L := L) (d := d) q
    rw [hr3] at h
    injection h
   rw [hr3] at eR
   have HRE := Lib.hid (And.intro eR hstop)
   have HEx := Lib.hid hexs
   have HWn := Lib.hid hWn
   have bAl := HV.out.2.1.lt
   clear hs2 hWn eR hr3 hexs hstop
   go_wp2_with fail
   refine HWn.out.mono ?_
   rintro e w6 (⟨hs20, v6, rfl, rfl, h6, f6⟩ | hbr)
   · have bA6 := f6.blk HV.out.2.1 (fun q => by have q' : Ta = pb := q; omega)
     have bT6 := f6.blk HV.out.2.2.1 (fun q => by have q' : T = pb := q; omega)
     have H6 := Lib.hid (And.intro h6 (And.intro bA6 (And.intro bT6 (And.intro (RowS.fr HV.out.2.2.2.1 f6 (fun b q => by have q' : b = pb := q; show b < Ta + 1; omega)) (HV.out.2.2.2.2.comp f6)))))
     have hz6 := bA6.lt
     clear h6 f6 bA6 bT6
     go_wp2_with fail
     refine (HEx.out _ hs20 H6.out.1).mono ?_
     rintro e w7 (⟨hs30, v7, rfl, ⟨cs, rfl, hE7⟩, h7, f7⟩ | hbr)
     · obtain ⟨k, nm, fl, bi, a0, n0, c0, a1, n1, c1, a2, n2, c2, a3, n3, c3, rfl⟩ := hE7.form
       unfold eC
       have bA7 := f7.blk H6.out.2.1 (fun q => by have q' : Ta = pb := q; omega)
       have bT7 := f7.blk H6.out.2.2.1 (fun q => by have q' : T = pb := q; omega)
       have x0 := bA7.cell 0
       have x1 := bA7.cell 1
       have x2 := bA7.cell 2
       have x3 := bA7.cell 3
       have x4 := bA7.cell 4
       have x5 := bA7.cell 5
       have x6 := bA7.cell 6
       have x7 := bA7.cell 7
       have x8 := bA7.cell 8
       have x9 := bA7.cell 9
       have x10 := bA7.cell 10
       have x11 := bA7.cell 11
       have x12 := bA7.cell 12
       simp at x0 x1 x2 x3 x4 x5 x6 x7 x8 x9 x10 x11 x12
       have xf := bA7.free
       have xl := bA7.lt
       have z0 := bT7.cell 0
       have z1 := bT7.cell 1
       have z2 := bT7.cell 2
       have z3 := bT7.cell 3
       have z4 := bT7.cell 4
       have z5 := bT7.cell 5
       have z6 := bT7.cell 6
       have z7 := bT7.cell 7
       have z8 := bT7.cell 8
       have z9 := bT7.cell 9
       have z10 := bT7.cell 10
       have z11 := bT7.cell 11
       have z12 := bT7.cell 12
       simp at z0 z1 z2 z3 z4 z5 z6 z7 z8 z9 z10 z11 z12
       have zf := bT7.free
       have zl := bT7.lt
       have hE7' : EAt (fun b => b < Ta + 1) w7 (eC k nm fl bi a0 n0 c0 a1 n1 c1 a2 n2 c2 a3 n3 c3) E := hE7.mono (fun b _ q => by have q' : b < Ta + 1 := q; omega)
       have H7 := Lib.hid (And.intro hE7' (And.intro h7 (And.intro (RowS.fr H6.out.2.2.2.1 f7 (fun b q => by have q' : b = pb := q; show b < Ta + 1; omega)) (H6.out.2.2.2.2.comp f7))))
       clear hE7 hE7' h7 f7 bA7 bT7
       have fin : Hid (∀ wf, Fr (fun b => b = T ∨ b = Ta) w7 wf → QEnds pb vT L dp w (fun w' v => AVal (fun b => b < w.heap.size) w' v R.1) R.2 (.returned (.agg #[.int .i64 1, .string ⟨#[]⟩, .bool tf, .int .u64 (tb : Int), .slice none 0 0, .int .i64 (k : Int), .string nm, .bool fl, .int .u64 (bi : Int), .slice a0 n0 c0, .slice a1 n1 c1, .slice a2 n2 c2, .slice a3 n3 c3])) wf) := Lib.hid (fun wf fz => by
        have FF : Fr (fun b => b = pb) w wf := H7.out.2.2.2.trans fz (fun b hb q => by rcases q with q | q <;> omega)
        rw [HRE.out.1]
        refine .inl ⟨hs30, _, rfl, ⟨.slice none 0 0, _, rfl, ?_, ?_⟩, ⟨fz.blk H7.out.2.1.blk (fun q => by rcases q with q | q <;> omega), H1.out.2.2.2.1.toks.fr FF (fun _ q => q), H7.out.2.1.le, H7.out.2.1.sz⟩, FF⟩
        · exact RowC.mono (RowS.fr H7.out.2.2.1 fz (fun b q => by show b < Ta + 1; rcases q with q | q <;> omega)) (by decide) (fun b _ q => by have q' : b < w.heap.size := q; show b < Ta + 1; omega)
        · exact (H7.out.1.fr fz (fun b q => by show b < Ta + 1; rcases q with q | q <;> omega)).mono (fun b _ q => by have q' : b < w.heap.size := q; show b < Ta + 1; omega))
       go_wp2
       (try simp only [Exit.inBlock, Exit.then])
       refine bodyPost_ret (v := .agg #[.int .i64 1, .string ⟨#[]⟩, .bool tf, .int .u64 (tb : Int), .slice none 0 0, .int .i64 (k : Int), .string nm, .bool fl, .int .u64 (bi : Int), .slice a0 n0 c0, .slice a1 n1 c1, .slice a2 n2 c2, .slice a3 n3 c3]) (by simp [results, Tryz.results124, go_sem, *]) rfl ?_
       exact fin.out _ (by exact frG)
     · have hb2 := hbr.back H6.out.2.2.2.2
       obtain ⟨_, rfl, _⟩ := hbr
       refine ⟨rfl, .inr ?_⟩
       rw [HRE.out.1]
       exact hb2
   · have hb2 := hbr.back HV.out.2.2.2.2
     obtain ⟨hne, rfl, _⟩ := hbr
     refine ⟨rfl, .inr ?_⟩
     rw [HRE.out.1, HRE.out.2 hne]
     exact hb2
 have d2 : (tk == 2) = false := by simpa using h2
 have d3 : (tk == 3) = false := by simpa using h3
 by_cases h1 : tk = 1
 · subst h1
   have eR := HRO.out
   rw [if_neg (by rw [hkp]; decide), if_neg (by rw [hkp]; decide), tok_peek hs (by rw [htk]), htk] at eR
   simp only at eR
   obtain ⟨s1, hs1⟩ : ∃ s1 : PS, { s with at_ := s.at_ + 1 } = s1 := ⟨_, rfl⟩
   have hs10 : s1.e = 0 := by rw [← hs1]; exact hs
   have ha1 : s.at_ + 1 = s1.at_ := by rw [← hs1]
   rw [hs1] at eR
   have HRS := Lib.hid eR.symm
   have hK := fun w' (f : Fr Nil W5 w') => qkind_ok hs (k := 1) (by decide) hkp (H5.out.2.2.2.1.fr f)
   rw [htk, ha1] at hK
   have HK := Lib.hid hK
   clear eR hs1 ha1 htk hkp hK
   go_wp2_with fail
   refine (HK.out _ (by exact frA)).mono ?_
   rintro e w6 ⟨rfl, h6, f6⟩
   unfold tokV
   have F6 : Fr (fun b => b = pb) W5 w6 := Fr.comp (S := fun b => b = pb) (by exact frG) f6
   have bA6 := F6.blk H5.out.2.1 (fun q => by have q' : Ta = pb := q; omega)
   have H6 := Lib.hid (And.intro h6 (And.intro bA6 (And.intro (F6.blk H5.out.1 (fun q => by have q' : T = pb := q; omega)) ((Fr.of_nil H5.out.2.2.2.2).comp F6))))
   have y0 := bA6.cell 0
   have y1 := bA6.cell 1
   have y2 := bA6.cell 2
   have y3 := bA6.cell 3
   have y4 := bA6.cell 4
   have y5 := bA6.cell 5
   have y6 := bA6.cell 6
   have y7 := bA6.cell 7
   have y8 := bA6.cell 8
   have y9 := bA6.cell 9
   have y10 := bA6.cell 10
   have y11 := bA6.cell 11
   have y12 := bA6.cell 12
   simp at y0 y1 y2 y3 y4 y5 y6 y7 y8 y9 y10 y11 y12
   have yf := bA6.free
   have yl := bA6.lt
   clear h6 f6 F6 bA6 p0 p1 p2 pf pl u0 u1 u2 u3 u4 uf ul
   obtain ⟨V, hV⟩ : ∃ V, (((((((((((((w6).setCell ⟨Ta, 0, none⟩ (.int .i64 2)).setCell ⟨Ta, 1, none⟩ (.string ⟨tx.toArray⟩)).setCell ⟨Ta, 2, none⟩ (.bool false)).setCell ⟨Ta, 3, none⟩ (.int .u64 0)).setCell ⟨Ta, 4, none⟩ (.slice none 0 0)).setCell ⟨Ta, 5, none⟩ (.int .i64 0)).setCell ⟨Ta, 6, none⟩ (.string ⟨#[]⟩)).setCell ⟨Ta, 7, none⟩ (.bool false)).setCell ⟨Ta, 8, none⟩ (.int .u64 0)).setCell ⟨Ta, 9, none⟩ (.slice none 0 0)).setCell ⟨Ta, 10, none⟩ (.slice none 0 0)).setCell ⟨Ta, 11, none⟩ (.slice none 0 0)).setCell ⟨Ta, 12, none⟩ (.slice none 0 0) = V := ⟨_, rfl⟩
   have FV : Fr (fun b => b = Ta) w6 V := by rw [← hV]; exact frG
   have FwV : Fr (fun b => b = pb) w V := H6.out.2.2.2.trans FV (fun b hb q => by have q' : b = Ta := q; omega)
   have bAV : Blk V Ta #[.int .i64 2, .string ⟨tx.toArray⟩, .bool false, .int .u64 0, .slice none 0 0, .int .i64 0, .string ⟨#[]⟩, .bool false, .int .u64 0, .slice none 0 0, .slice none 0 0, .slice none 0 0, .slice none 0 0] 120 := by
    rw [← hV]
    (unfold Blk; simp (disch := first | omega | (simp; done) | (simp; omega)) only [hp_drew, hp_drewN, hp_alloc, hp_other, hp_same, hp_new, upd_cells, Option.map_some, (H6.out.2.1).eq])
    simp
   have hQV : QAt V pb vT L s1.at_ dp := ⟨FV.blk H6.out.1.blk (fun q => by have q' : pb = Ta := q; omega), H1.out.2.2.2.1.toks.fr FwV (fun _ q => q), H6.out.1.le, H6.out.1.sz⟩
   have HV := Lib.hid (And.intro hQV (And.intro bAV (And.intro (FV.blk H6.out.2.2.1 (fun q => by have q' : T = Ta := q; omega)) (And.intro (show RowS (fun b => b < Ta + 1) V (.slice none 0 0) [] from .nil) FwV))))
   have HV0 := Lib.hid hV
   clear hV FV FwV bAV hQV
   go_upto_region 11 with fail
   rw [HV0.out]
   clear HV0 y0 y1 y2 y3 y4 y5 y6 y7 y8 y9 y10 y11 y12 yf yl
   obtain ⟨s2, hs2⟩ : ∃ s2, needF L [45, 62] s1 = s2 := ⟨_, rfl⟩
   have hWn := qwant_any [45, 62] hs10 HV.out.1
   rw [hs2] at hWn
   have eR := HRS.out
   rw [hs2] at eR
   obtain ⟨⟨E, s3⟩, hr3⟩ : ∃ r, exprF L d s2 = r := ⟨_, rfl⟩
   have hexs : ∀ w', s2.e = 0 → QAt w' pb vT L s2.at_ dp → Calls Tryz.prog 76 #[.pointer (some ⟨pb, 0, none⟩)] w' (QEnds pb vT L dp w' (fun w'' v => EVal (fun b => b < w'.heap.size) w'' v E) s3) := fun w' q h' => by
    have h := HX.out w' s2 q h'
    rw [hr3] at h
    exact h
   have hstop : s2.e ≠ 0 → s3 = s2 := fun q => by
    have h := expr_stop (L := L) (d := d) q
    rw [hr3] at h
    injection h
   rw [hr3] at eR
   have HRE := Lib.hid (And.intro eR hstop)
   have HEx := Lib.hid hexs
   have HWn := Lib.hid hWn
   have bAl := HV.out.2.1.lt
   clear hs2 hWn eR hr3 hexs hstop
   go_wp2_with fail
   refine HWn.out.mono ?_
   rintro e w6 (⟨hs20, v6, rfl, rfl, h6, f6⟩ | hbr)
   · have bA6 := f6.blk HV.out.2.1 (fun q => by have q' : Ta = pb := q; omega)
     have bT6 := f6.blk HV.out.2.2.1 (fun q => by have q' : T = pb := q; omega)
     have H6 := Lib.hid (And.intro h6 (And.intro bA6 (And.intro bT6 (And.intro (RowS.fr HV.out.2.2.2.1 f6 (fun b q => by have q' : b = pb := q; show b < Ta + 1; omega)) (HV.out.2.2.2.2.comp f6)))))
     have hz6 := bA6.lt
     clear h6 f6 bA6 bT6
     go_wp2_with fail
     refine (HEx.out _ hs20 H6.out.1).mono ?_
     rintro e w7 (⟨hs30, v7, rfl, ⟨cs, rfl, hE7⟩, h7, f7⟩ | hbr)
     · obtain ⟨k, nm, fl, bi, a0, n0, c0, a1, n1, c1, a2, n2, c2, a3, n3, c3, rfl⟩ := hE7.form
       unfold eC
       have bA7 := f7.blk H6.out.2.1 (fun q => by have q' : Ta = pb := q; omega)
       have bT7 := f7.blk H6.out.2.2.1 (fun q => by have q' : T = pb := q; omega)
       have x0 := bA7.cell 0
       have x1 := bA7.cell 1
       have x2 := bA7.cell 2
       have x3 := bA7.cell 3
       have x4 := bA7.cell 4
       have x5 := bA7.cell 5
       have x6 := bA7.cell 6
       have x7 := bA7.cell 7
       have x8 := bA7.cell 8
       have x9 := bA7.cell 9
       have x10 := bA7.cell 10
       have x11 := bA7.cell 11
       have x12 := bA7.cell 12
       simp at x0 x1 x2 x3 x4 x5 x6 x7 x8 x9 x10 x11 x12
       have xf := bA7.free
       have xl := bA7.lt
       have z0 := bT7.cell 0
       have z1 := bT7.cell 1
       have z2 := bT7.cell 2
       have z3 := bT7.cell 3
       have z4 := bT7.cell 4
       have z5 := bT7.cell 5
       have z6 := bT7.cell 6
       have z7 := bT7.cell 7
       have z8 := bT7.cell 8
       have z9 := bT7.cell 9
       have z10 := bT7.cell 10
       have z11 := bT7.cell 11
       have z12 := bT7.cell 12
       simp at z0 z1 z2 z3 z4 z5 z6 z7 z8 z9 z10 z11 z12
       have zf := bT7.free
       have zl := bT7.lt
       have hE7' : EAt (fun b => b < Ta + 1) w7 (eC k nm fl bi a0 n0 c0 a1 n1 c1 a2 n2 c2 a3 n3 c3) E := hE7.mono (fun b _ q => by have q' : b < Ta + 1 := q; omega)
       have H7 := Lib.hid (And.intro hE7' (And.intro h7 (And.intro (RowS.fr H6.out.2.2.2.1 f7 (fun b q => by have q' : b = pb := q; show b < Ta + 1; omega)) (H6.out.2.2.2.2.comp f7))))
       clear hE7 hE7' h7 f7 bA7 bT7
       have fin : Hid (∀ wf, Fr (fun b => b = T ∨ b = Ta) w7 wf → QEnds pb vT L dp w (fun w' v => AVal (fun b => b < w.heap.size) w' v R.1) R.2 (.returned (.agg #[.int .i64 2, .string ⟨tx.toArray⟩, .bool false, .int .u64 0, .slice none 0 0, .int .i64 (k : Int), .string nm, .bool fl, .int .u64 (bi : Int), .slice a0 n0 c0, .slice a1 n1 c1, .slice a2 n2 c2, .slice a3 n3 c3])) wf) := Lib.hid (fun wf fz => by
        have FF : Fr (fun b => b = pb) w wf := H7.out.2.2.2.trans fz (fun b hb q => by rcases q with q | q <;> omega)
        rw [HRE.out.1]
        refine .inl ⟨hs30, _, rfl, ⟨.slice none 0 0, _, rfl, ?_, ?_⟩, ⟨fz.blk H7.out.2.1.blk (fun q => by rcases q with q | q <;> omega), H1.out.2.2.2.1.toks.fr FF (fun _ q => q), H7.out.2.1.le, H7.out.2.1.sz⟩, FF⟩
        · exact RowC.mono (RowS.fr H7.out.2.2.1 fz (fun b q => by show b < Ta + 1; rcases q with q | q <;> omega)) (by decide) (fun b _ q => by have q' : b < w.heap.size := q; show b < Ta + 1; omega)
        · exact (H7.out.1.fr fz (fun b q => by show b < Ta + 1; rcases q with q | q <;> omega)).mono (fun b _ q => by have q' : b < w.heap.size := q; show b < Ta + 1; omega))
       go_wp2
       (try simp only [Exit.inBlock, Exit.then])
       refine bodyPost_ret (v := .agg #[.int .i64 2, .string ⟨tx.toArray⟩, .bool false, .int .u64 0, .slice none 0 0, .int .i64 (k : Int), .string nm, .bool fl, .int .u64 (bi : Int), .slice a0 n0 c0, .slice a1 n1 c1, .slice a2 n2 c2, .slice a3 n3 c3]) (by simp [results, Tryz.results124, go_sem, *]) rfl ?_
       exact fin.out _ (by exact frG)
     · have hb2 := hbr.back H6.out.2.2.2.2
       obtain ⟨_, rfl, _⟩ := hbr
       refine ⟨rfl, .inr ?_⟩
       rw [HRE.out.1]
       exact hb2
   · have hb2 := hbr.back HV.out.2.2.2.2
     obtain ⟨hne, rfl, _⟩ := hbr
     refine ⟨rfl, .inr ?_⟩
     rw [HRE.out.1, HRE.out.2 hne]
     exact hb2
 · have eR := HRO.out
   have hk1 : ¬ kindP L s = 1 := fun q => h1 (by rw [← hkp]; exact q)
   have e2 : tokenF L 1 s = (none_ 0, faultF L 3 s) := by unfold tokenF; rw [if_neg (fun q => hk1 q.2)]
   have hne := fault_ne (L := L) (e := 3) (by decide) s
   rw [if_neg (by rw [hkp]; exact h2), if_neg (by rw [hkp]; exact h3), e2] at eR
   simp only at eR
   rw [need_stop hne, expr_stop hne] at eR
   have hK := fun w' (f : Fr Nil W5 w') => qkind_any hs (k := 1) (by decide) (H5.out.2.2.2.1.fr f)
   rw [e2] at hK
   have HK := Lib.hid hK
   have HE := Lib.hid (And.intro eR hne)
   clear eR hk1 e2 hne hK htk hkp
   go_wp2_with fail
   refine (HK.out _ (by exact frA)).mono ?_
   rintro e w6 (⟨q, _⟩ | hbr)
   · exact absurd q HE.out.2
   · have hb2 := hbr.back (Fr.of_nil (Fr.comp (S := Nil) H5.out.2.2.2.2 (by exact frA)))
     obtain ⟨_, rfl, _⟩ := hbr
     refine ⟨rfl, .inr ?_⟩
     rw [← HE.out.1]
     exact hb2
end
end Go.Proofs.YtlnmicddobgppaaGreatDoor
