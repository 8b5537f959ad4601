/-
  An expression (layer 8): what expr reads, at whatever depth. No conditions.
-/
import Derived.Test.YtlnmicddobgppaaGreatDoorNnJ
import Derived.Test.YtlnmicddobgppaaGreatDoorNnH
import Derived.Test.YtlnmicddobgppaaGreatDoorNnA
namespace Go.Proofs.YtlnmicddobgppaaGreatDoor
set_option maxRecDepth 100000
set_option maxHeartbeats 4000000
set_option linter.unusedSimpArgs false
set_option linter.unusedVariables false
open Go.RowKit
theorem pexpr_all (pb : Nat) (vT : Value) (L : List TokV) : ∀ (d deep : Nat), deep + d = 201 → Reads pb vT L 61 (deep : Int) (exprF L d)
 | 0, deep, hd => fun w s h => by
  by_cases he : s.e = 0
  · have e : exprF L 0 s = (zeroE, faultF L 3 (if startsF L s = true then faultF L 12 s else s)) := by unfold exprF; rw [if_neg (by simpa using he)]
    rw [e]
    exact pexpr_deep h he (by omega)
  · have e : exprF L 0 s = (zeroE, s) := by unfold exprF; rw [if_pos he]
    rw [e]
    exact pexpr_err h he
 | d + 1, deep, hd => fun w s h => by
  have hex : Reads pb vT L 61 ((deep : Int) + 1) (exprF L d) := by
   have h := pexpr_all pb vT L d (deep + 1) (by omega)
   rw [show ((deep + 1 : Nat) : Int) = (deep : Int) + 1 by omega] at h
   exact h
  have hgo := expr_goes L d
  by_cases he : s.e = 0
  · have e0 : exprF L (d + 1) s = exprStep L (exprF L d) s := by conv => lhs; unfold exprF
    by_cases hl : seesF L [108, 101, 116] s = true
    · have e : exprF L (d + 1) s = letF L (exprF L d) s := by rw [e0]; unfold exprStep; rw [if_neg (by simpa using he), if_pos hl]
      rw [e]
      exact pexpr_let h he (by omega) hl hgo hex
    · by_cases hc : seesF L [99, 97, 115, 101] s = true
      · have e : exprF L (d + 1) s = choiceF L (exprF L d) s := by rw [e0]; unfold exprStep; rw [if_neg (by simpa using he), if_neg hl, if_pos hc]
        rw [e]
        exact pexpr_case h he (by omega) (by simpa using hl) hc hgo hex
      · by_cases hm : seesF L [92] s = true
        · have e : exprF L (d + 1) s = lamF L (exprF L d) s := by rw [e0]; unfold exprStep; rw [if_neg (by simpa using he), if_neg hl, if_neg hc, if_pos hm]
          rw [e]
          exact pexpr_lam h he (by omega) (by simpa using hl) (by simpa using hc) hm hex
        · have e : exprF L (d + 1) s = opF L (exprF L d) s := by rw [e0]; unfold exprStep; rw [if_neg (by simpa using he), if_neg hl, if_neg hc, if_neg hm]
          rw [e]
          exact pexpr_op h he (by omega) (by simpa using hl) (by simpa using hc) (by simpa using hm) hgo hex
  · have e : exprF L (d + 1) s = (zeroE, s) := by unfold exprF exprStep; rw [if_pos he]
    rw [e]
    exact pexpr_err h he
theorem data_len (L : List TokV) : ∀ (n : Nat) (acc : List (List UInt8 × Nat)) (s : PS), (dataF L n acc s).1.length + measP L (dataF L n acc s).2 ≤ acc.length + measP L s
 | 0, acc, s => Nat.le_refl _
 | n + 1, acc, s => by
  unfold dataF
  split
  · rename_i h
    have h1 := data_len L n (acc ++ [((tokenF L 2 s).1.text, (tokenF L 3 (if kindP L (tokenF L 2 s).2 = 3 then (if (L[(tokenF L 2 s).2.at_]?.getD (none_ 0)).flt = true ∨ 24 < (L[(tokenF L 2 s).2.at_]?.getD (none_ 0)).bits then faultF L 1 (tokenF L 2 s).2 else (tokenF L 2 s).2) else (tokenF L 2 s).2)).1.bits)]) (tokenF L 3 (if kindP L (tokenF L 2 s).2 = 3 then (if (L[(tokenF L 2 s).2.at_]?.getD (none_ 0)).flt = true ∨ 24 < (L[(tokenF L 2 s).2.at_]?.getD (none_ 0)).bits then faultF L 1 (tokenF L 2 s).2 else (tokenF L 2 s).2) else (tokenF L 2 s).2)).2
    have h2 := token_meas (L := L) (k := 2) (by decide) h.1
    have h3 := measP_goes ((data_goes L (tokenF L 2 s).2).trans (token_goes (L := L) (k := 3) (by decide) _))
    simp only [List.length_append, List.length_singleton] at h1
    simp only
    omega
  · exact Nat.le_refl _
theorem bind_meas {L : List TokV} {ex : PS → TE × PS} (hgo : ∀ s, Goes L s (ex s).2) {s : PS} (h0 : s.e = 0) : measP L (bindF L ex s).2 < measP L s := by
 have h1 := token_meas (L := L) (k := 1) (by decide) h0
 have h2 : Goes L (tokenF L 1 s).2 (bindF L ex s).2 := by
  unfold bindF fuelP
  unfold namesF
  rw [if_pos ⟨h0, .inl rfl⟩]
  exact ((names_goes _ _ _ _).trans (need_goes _ _)).trans (hgo _)
 have h3 := measP_goes h2
 omega
def MVal (X : Nat → Prop) (w : World) (v : Value) (m : TM) : Prop := ∃ (cv bv : Value) (cs bs : Nat → List Value), v = .agg #[cv, bv] ∧ RowC X w cv m.cons.length 2 cs ∧ (∀ i (h : i < m.cons.length), cs i = [.string ⟨m.cons[i].1.toArray⟩, .int .i64 (m.cons[i].2 : Int)]) ∧ RowC X w bv m.binds.length 10 bs ∧ ∀ i (h : i < m.binds.length), BAt X w (bs i) m.binds[i]
theorem RowC.mono_new {w w' : World} {v : Value} {n size pb : Nat} {cs : Nat → List Value} (h : RowC (fun _ => False) w v n size cs) (f : Fr Nil w w') (hz : 0 < size) (hT : w.heap.size ≤ pb) : RowC (fun b => b = pb) w' v n size cs :=
 (h.mono (Y := fun b => b = pb) hz (fun b hb q => by have q' : b = pb := q; omega)).fr f (fun _ q => q.elim)
theorem RowsAt.frD {S : Nat → Prop} {t : TypeId} {base : Nat} {w w' : World} {v : Value} {acc : List (List UInt8 × Nat)} (h : RowsAt DAt 2 t base w v acc) (f : Fr S w w') (ho : ∀ k, v.ownBlock = some k → ¬ S k) : RowsAt DAt 2 t base w' v acc := by
 obtain ⟨cl, h1, h2, h3⟩ := h
 exact ⟨cl, h1, fun i a b => h2 i a b, owns_frS h3 f ho⟩
theorem RowsAt.joinD {t : TypeId} {base : Nat} {w wa w3 : World} {v' : Value} {acc ds : List (List UInt8 × Nat)} {cl dl : List (List Value)} (h1 : cl.length = acc.length) (h2 : ∀ i (h : i < cl.length) (h' : i < acc.length), DAt (fun _ => False) w cl[i] acc[i]) (g1 : dl.length = ds.length) (g2 : ∀ i (h : i < dl.length) (h' : i < ds.length), DAt (fun _ => False) wa dl[i] ds[i]) (ho : w3.ownsRow base t 2 v' (acc.length + ds.length) (cl.flatten ++ dl.flatten)) : RowsAt DAt 2 t base w3 v' (acc ++ ds) := by
 refine ⟨cl ++ dl, by simp [h1, g1], fun i hi hi' => ?_, by rw [List.flatten_append, List.length_append]; exact ho⟩
 by_cases q : i < cl.length
 · rw [List.getElem_append_left q, List.getElem_append_left (by omega)]
   exact h2 i q (by omega)
 · rw [List.getElem_append_right (by omega), List.getElem_append_right (by omega)]
   have e : i - cl.length = i - acc.length := by omega
   simp only [e]
   exact g2 _ (by simp at hi; omega) _
theorem owns_src {w : World} {base size n : Nat} {t : TypeId} {v : Value} {xs : List Value} (h : w.ownsRow base t size v n xs) : ∃ A c, v = .slice A n c ∧ Src w A n size xs := by
 have hl := h.1
 rcases h.2 with ⟨rfl, rfl⟩ | ⟨g, cap, cur, rfl, h1, hb, h2, h3, h4, h5⟩
 · rw [Nat.zero_mul] at hl
   exact ⟨none, 0, rfl, .inl ⟨rfl, rfl, List.eq_nil_of_length_eq_zero hl⟩⟩
 · refine ⟨_, cap, rfl, .inr ⟨_, rfl, hl, fun j u hj => ?_⟩⟩
   have hb' : Blk w g cur t := hb
   rw [add_head, hb'.cell]
   rw [← h5] at hj
   have hlt : j < n * size := by
    have := (List.getElem?_eq_some_iff.1 hj).1
    simp at this
    omega
   rw [List.getElem?_take_of_lt hlt] at hj
   simpa using hj
theorem one_flatD {w : World} {dl : List (List Value)} {ds : List (List UInt8 × Nat)} (g1 : dl.length = ds.length) (g2 : ∀ i (h : i < dl.length) (h' : i < ds.length), DAt (fun _ => False) w dl[i] ds[i]) : ∀ u ∈ dl.flatten, u.oneCell' = true := by
 intro u hu
 obtain ⟨c, hc, hu⟩ := List.mem_flatten.1 hu
 obtain ⟨i, hi, rfl⟩ := List.getElem_of_mem hc
 have := g2 i hi (by omega)
 unfold DAt at this
 rw [this] at hu
 simp at hu
 rcases hu with rfl | rfl <;> rfl
theorem RowsAt.reK {α : Type} {R : (Nat → Prop) → World → List Value → α → Prop} {size : Nat} {t : TypeId} {base : Nat} {w : World} {v : Value} {acc : List α} {K K' : Nat → Prop} (law : ElemLaw R size) (h : RowsAt (RX K R) size t base w v acc) (hs : ∀ b, b < w.heap.size → K' b → K b) : RowsAt (RX K' R) size t base w v acc := by
 obtain ⟨cl, h1, h2, h3⟩ := h
 exact ⟨cl, h1, fun i a b => law.mono (h2 i a b) (fun b hb q => q.imp id (hs b hb)), h3⟩
theorem data_end {t t2 : TypeId} {w w4 w0 wa w9 wf : World} {pb Te B : Nat} {vT v bv v' : Value} {L : List TokV} {s st' : PS} {acc ds : List (List UInt8 × Nat)} {bs : List TB} {cl dl : List (List Value)}
 (h0 : PAt w pb vT L s) (F4 : Fr (fun b => b = pb) w w4) (hB : w4.heap.size = B) (hTe : w.heap.size ≤ Te) (hTB : Te < B) (F0 : Fr (fun b => b = pb ∨ b = Te) w4 w0)
 (h1 : cl.length = acc.length) (h2 : ∀ i (h : i < cl.length) (h' : i < acc.length), DAt (fun _ => False) w cl[i] acc[i]) (hcl : w0.ownsRow B t 2 v acc.length cl.flatten)
 (HB : RowsAt (RX (fun b => v.ownBlock = some b) BAt) 10 t2 B w0 bv bs) (hd : ∀ k, v.ownBlock = some k → bv.ownBlock ≠ some k) (ha : PAt wa pb vT L st') (fa : Fr (fun b => b = pb) w0 wa)
 (g1 : dl.length = ds.length) (g2 : ∀ i (h : i < dl.length) (h' : i < ds.length), DAt (fun _ => False) w dl[i] ds[i])
 (ho : w9.ownsRow B t 2 v' (acc.length + ds.length) (cl.flatten ++ dl.flatten)) (f9 : Fr (fun k => v.ownBlock = some k) wa w9) (hk : ∀ k, v'.ownBlock = some k → v.ownBlock = some k ∨ wa.heap.size ≤ k) (gf : Fr (fun b => b = Te) w9 wf) :
 RowsAt DAt 2 t B wf v' (acc ++ ds) ∧ RowsAt (RX (fun b => v'.ownBlock = some b) BAt) 10 t2 B wf bv bs ∧ (∀ k, v'.ownBlock = some k → bv.ownBlock ≠ some k) ∧ PAt wf pb vT L st' ∧ Fr (fun b => b = pb ∨ b = Te) w4 wf := by
 have hpb := h0.blk.lt
 have hs4 := F4.size
 have hs0 := F0.size
 have hsa := fa.size
 have hown := hcl.lt
 have hownB := HB.own
 have hD9 : RowsAt DAt 2 t B w9 v' (acc ++ ds) := RowsAt.joinD (w := w) (wa := w) h1 h2 g1 g2 ho
 have hown9 := ho.lt
 have hDf := hD9.frD gf (fun k q e => by have := (hown9 k q).1; have e' : k = Te := e; omega)
 have hBa := HB.fr (lawX lawB _) fa (fun b q => by have q' : b = pb := q; omega)
 have hBa2 : RowsAt (RX (fun b => v.ownBlock = some b ∨ v'.ownBlock = some b) BAt) 10 t2 B wa bv bs := hBa.reK lawB (fun b hb q => by
  rcases q with q | q
  · exact q
  · rcases hk b q with z | z
    · exact z
    · omega)
 have hB9 := hBa2.frK lawB f9 (fun b q => .inr (.inl q)) (fun k q e => hd k e q)
 have hBf := (hB9.fr (lawX lawB _) gf (fun b q => by have q' : b = Te := q; omega)).reK lawB (K' := fun b => v'.ownBlock = some b) (fun b _ q => .inr q)
 have G : Fr (fun b => b = pb ∨ b = Te) w4 wf := ((F0.comp (fa.mono (fun _ _ q => .inl q))).trans f9 (fun k hk2 q => by have := (hown k q).1; omega)).trans gf (fun _ _ q => .inr q)
 have FF : Fr (fun b => b = pb) w wf := F4.trans G (fun k hk2 q => by rcases q with q | q; exact q; omega)
 refine ⟨hDf, hBf, fun k q e => ?_, h0.keep FF ha (S := fun b => b = Te ∨ v.ownBlock = some b) ((f9.mono (fun _ _ q => Or.inr q)).trans gf (fun _ _ q => .inl q)) (fun q => ?_), G⟩
 · rcases hk k q with z | z
   · exact hd k z e
   · have := (hownB k e).2; omega
 · rcases q with q | q
   · omega
   · have := (hown pb q).1; omega
section
variable {w : World} {vT : Value} {L : List TokV}
set_option maxHeartbeats 8000000 in
theorem ptokens_any (hT : RowC (fun _ => False) w vT L.length 5 (fun i => tokCells (L.getD i (none_ 0)))) (hsz : L.length ≤ 1000000) :
 Calls Tryz.prog 15 #[vT] w fun r w' => ∃ v, r = .returned (.tuple #[v, .int .i64 ((tokensF L).2.1 : Int), .int .i64 ((tokensF L).2.2 : Int)]) ∧ MVal (fun b => b < w.heap.size) w' v (tokensF L).1 ∧ Fr Nil w w' := by
 obtain ⟨i0, hi, hz0, hz1, hz2⟩ := info_parts infoB
 obtain ⟨iD, hiD, hzD0, hzD1, hzD2⟩ := info_parts infoD
 obtain ⟨R, hR⟩ : ∃ R, modF L (fuelP L) ⟨[], []⟩ ⟨0, 0, 0⟩ = R := ⟨_, rfl⟩
 have e0 : tokensF L = if R.2.e ≠ 0 then (⟨[], []⟩, R.2.e, R.2.line) else (R.1, 0, 0) := by unfold tokensF; rw [hR]
 obtain ⟨⟨rm, re, rl⟩, hRM⟩ : ∃ x, (if R.2.e ≠ 0 then ((⟨[], []⟩ : TM), R.2.e, R.2.line) else (R.1, 0, 0)) = x := ⟨_, rfl⟩
 rw [e0, hRM]
 show Calls _ _ _ _ fun r w' => ∃ v, r = .returned (.tuple #[v, .int .i64 (re : Int), .int .i64 (rl : Int)]) ∧ MVal (fun b => b < w.heap.size) w' v rm ∧ Fr Nil w w'
 have HRM := Lib.hid hRM
 clear hRM
 obtain ⟨av, cv, rfl⟩ := hT.shape
 obtain ⟨T, hTT⟩ : ∃ T, w.heap.size = T := ⟨_, rfl⟩
 rw [hTT]
 have HP := Lib.hid (And.intro hT (And.intro hR hsz))
 clear hT hR e0
 go_enter Tryz.func15, Tryz.ntmps15
 go_upto_region 3 with fail
 obtain ⟨pb, hpb⟩ : ∃ pb, T + 1 = pb := ⟨_, rfl⟩
 obtain ⟨Tm, hTm⟩ : ∃ Tm, pb + 1 = Tm := ⟨_, rfl⟩
 rw [hpb, hTm]
 obtain ⟨wP, hwP⟩ : ∃ wP, (w.alloc (.cells #[.slice none 0 0, .slice none 0 0] 26)).alloc (.cells #[.slice av L.length cv, .int .i64 0, .int .i64 0, .int .i64 0] 76) = wP := ⟨_, rfl⟩
 obtain ⟨W3, hW3⟩ : ∃ W3, wP.alloc (.cells #[.slice none 0 0, .slice none 0 0] 26) = W3 := ⟨_, rfl⟩
 rw [hwP, hW3]
 have fP : Fr Nil w wP := by rw [← hwP]; exact frA
 have f3 : Fr Nil wP W3 := by rw [← hW3]; exact frA
 have bP : Blk wP pb #[.slice av L.length cv, .int .i64 0, .int .i64 0, .int .i64 0] 76 := by
  rw [← hwP, ← hpb, ← hTT]
  have h := Blk.new (w.alloc (.cells #[.slice none 0 0, .slice none 0 0] 26)) #[.slice av L.length cv, .int .i64 0, .int .i64 0, .int .i64 0] 76
  simpa using h
 have bTP : Blk wP T #[.slice none 0 0, .slice none 0 0] 26 := by
  rw [← hwP, ← hTT]
  exact ((Fr.refl Nil _).alloc _).blk (Blk.new w #[.slice none 0 0, .slice none 0 0] 26) (fun q => q)
 have sP : wP.heap.size = Tm := by rw [← hwP]; simp; omega
 have bM3 : Blk W3 Tm #[.slice none 0 0, .slice none 0 0] 26 := by
  rw [← hW3, ← sP]
  exact Blk.new wP #[.slice none 0 0, .slice none 0 0] 26
 have hPP : PAt wP pb (.slice av L.length cv) L ⟨0, 0, 0⟩ := ⟨bP, HP.out.1.mono_new fP (by decide) (by omega), Nat.zero_le _, HP.out.2.2⟩
 have hP3 := hPP.fr f3
 have bT3 := f3.blk bTP (fun q => q)
 obtain ⟨B, hB⟩ : ∃ B, W3.heap.size = B := ⟨_, rfl⟩
 have l1 : T < pb := by omega
 have hTw : w.heap.size ≤ T := by omega
 have l2 : pb < Tm := by omega
 have l3 : Tm < B := by have := bM3.lt; omega
 have HW := Lib.hid (And.intro hPP (And.intro (Fr.of_nil f3 : Fr (fun b => b = pb) wP W3) (And.intro hB (And.intro sP (And.intro (fP.comp f3) bT3)))))
 have HS0 := Lib.hid (And.intro hP3 bM3)
 obtain ⟨F, hF⟩ : ∃ F, fuelP L = F := ⟨_, rfl⟩
 have HR : Hid (modF L F ⟨[], []⟩ ⟨0, 0, 0⟩ = R) := Lib.hid (hF ▸ HP.out.2.1)
 have hm := measP_le L ⟨0, 0, 0⟩
 rw [hF] at hm
 have hF2 : F ≤ 1000002 := by unfold fuelP at hF; omega
 clear hwP hW3 fP f3 bP bTP bM3 hPP hP3 bT3 hTT hpb hTm sP hB hF
 go_loopg [] F (fun g wr => ∃ (m : TM) (st : PS) (xv yv : Value), Hid (modF L g m st = R ∧ measP L st + 1 ≤ g ∧ m.cons.length + m.binds.length + measP L st ≤ 1000001 ∧ RowsAt DAt 2 68 B wr xv m.cons ∧ RowsAt (RX (fun b => xv.ownBlock = some b) BAt) 10 51 B wr yv m.binds ∧ (∀ k, xv.ownBlock = some k → yv.ownBlock ≠ some k) ∧ PAt wr pb (.slice av L.length cv) L st ∧ Blk wr Tm #[xv, yv] 26 ∧ Fr (fun b => b = pb ∨ b = Tm) W3 wr))
 case atStart => exact ⟨⟨[], []⟩, ⟨0, 0, 0⟩, _, _, Lib.hid ⟨HR.out, hm, by simp; omega, .nil, .nil, fun k q => by simp [Value.ownBlock] at q, HS0.out.1, HS0.out.2, Fr.refl _ _⟩⟩
 case round =>
  obtain ⟨m, st, xv, yv, HS⟩ := hrel
  obtain ⟨p0, p1, p2, p3, pf, pl⟩ := HS.out.2.2.2.2.2.2.1.facts
  obtain ⟨f, hf⟩ : ∃ f, gk = f + 1 := ⟨gk - 1, by have := HS.out.2.1; omega⟩
  obtain ⟨cd, hcd⟩ : ∃ cd, decide (st.e = 0 ∧ st.at_ < L.length) = cd := ⟨_, rfl⟩
  have HCD := Lib.hid hcd
  clear hcd
  go_upto_region 3 with fail
  go_cut [24] (fun sv wx => sv = .bool cd ∧ Fr Nil wr wx)
  case first =>
   by_cases he : st.e = 0
   · have i2 : (st.e : Int) = 0 := by omega
     rw [i2] at p2
     have hcc := HCD.out
     by_cases hl : st.at_ < L.length
     · have i3 : (st.at_ : Int) < (L.length : Int) := by omega
       rw [decide_eq_true ⟨he, hl⟩] at hcc
       subst hcc
       clear i2 he
       go_wp2
       go_meet
       exact ⟨by simp <;> omega, by exact frA⟩
     · have i3 : ¬ (st.at_ : Int) < (L.length : Int) := by omega
       rw [decide_eq_false (fun q => hl q.2)] at hcc
       subst hcc
       clear i2 he
       go_wp2
       go_meet
       exact ⟨by simp <;> omega, by exact frA⟩
   · have i2 : ¬ (st.e : Int) = 0 := by omega
     have d3 : ((st.e : Int) == 0) = false := by simpa using i2
     have hcc := HCD.out
     rw [decide_eq_false (fun q => he q.1)] at hcc
     subst hcc
     go_wp2
     go_meet
     exact ⟨by simp [d3], by exact frA⟩
  case rest =>
   obtain ⟨rfl, f5⟩ := hcut
   obtain ⟨w5, hw5⟩ : ∃ w5, wc = w5 := ⟨_, rfl⟩
   rw [hw5] at f5 ⊢
   clear hw5 p0 p1 p2 p3 pf pl
   have h5 := HS.out.2.2.2.2.2.2.1.fr f5
   have hD5 := HS.out.2.2.2.1.fr lawD f5 (fun _ q => q.elim)
   have hB5 := HS.out.2.2.2.2.1.fr (lawX lawB _) f5 (fun _ q => q.elim)
   have bM5 := f5.blk HS.out.2.2.2.2.2.2.2.1 (fun q => q)
   have G5 := HS.out.2.2.2.2.2.2.2.2.via f5
   have hdis := HS.out.2.2.2.2.2.1
   have l4 : B ≤ w5.heap.size := by have := G5.size; rw [HW.out.2.2.1] at this; exact this
   cases cd with
   | false =>
    have hno := of_decide_eq_false HCD.out
    have hst := HS.out.1
    rw [hf] at hst
    unfold modF at hst
    rw [if_neg hno] at hst
    subst hst
    obtain ⟨p0, p1, p2, p3, pf, pl⟩ := h5.facts
    have bT5 := G5.blk HW.out.2.2.2.2.2 (fun q => by rcases q with q | q <;> omega)
    have F5 : Fr Nil w w5 := (HW.out.2.2.2.2.1.trans G5 (fun k hk q => by
     have := HW.out.2.2.2.2.1.size
     have h1 := HW.out.1.blk.lt
     rcases q with q | q
     · exact absurd q (by have := HP.out.1; have := hTw; omega)
     · exact absurd q (by have := hTw; omega)))
    have Tc0 := bT5.cell 0
    have Tc1 := bT5.cell 1
    simp at Tc0 Tc1
    have Tf := bT5.free
    have Tl := bT5.lt
    by_cases he : st.e = 0
    · have i2 : (st.e : Int) = 0 := by omega
      rw [i2] at p2
      have hq := HRM.out
      rw [if_neg (by simpa using he)] at hq
      cases hq
      have Mc := bM5.cell
      have Ml := bM5.lt
      obtain ⟨xa, xc, rfl⟩ := hD5.shape
      obtain ⟨ya, yc, rfl⟩ := hB5.shape
      have fin : Hid (∀ wf, Fr (fun b => b = T) w5 wf → ∃ v, Ending.returned (.tuple #[.agg #[.slice xa m.cons.length xc, .slice ya m.binds.length yc], .int .i64 0, .int .i64 0]) = .returned (.tuple #[v, .int .i64 ((0 : Nat) : Int), .int .i64 ((0 : Nat) : Int)]) ∧ MVal (fun b => b < T) wf v m ∧ Fr Nil w wf) := fun wf g => by
       have FF : Fr Nil w wf := F5.trans g (fun k hk q => by have q' : k = T := q; omega)
       obtain ⟨cs, hc1, hc2⟩ := hD5.row lawD
       obtain ⟨bs, hb1, hb2⟩ := hB5.row (lawX lawB _)
       refine ⟨_, rfl, ⟨_, _, cs, bs, rfl, (hc1.fr g (fun b q => by have q' : b = T := q; omega)).mono (by decide) (fun b _ q => by omega), hc2, (hb1.fr g (fun b q => by have q' : b = T := q; omega)).mono (by decide) (fun b _ q => by omega), fun i hi => ?_⟩, FF⟩
       exact lawB.mono (lawB.fr (hb2 i hi) g (fun b q => .inl (by have q' : b = T := q; omega))) (fun b _ q => .inl (by omega))
      clear i2 he hD5 hB5 hdis G5 F5 h5 bT5
      go_wp2
      (try simp only [Exit.inBlock, Exit.then])
      refine bodyPost_ret (v := .tuple #[.agg #[.slice xa m.cons.length xc, .slice ya m.binds.length yc], .int .i64 0, .int .i64 0]) (by simp [results, Tryz.results15, go_sem, *]) rfl ?_
      exact fin.out _ (by exact frG)
    · have i2 : ¬ (st.e : Int) = 0 := by omega
      have d3 : ((st.e : Int) == 0) = false := by simpa using i2
      have hq := HRM.out
      rw [if_pos he] at hq
      cases hq
      have fin : Hid (∀ wf, Fr (fun b => b = T) w5 wf → ∃ v, Ending.returned (.tuple #[.agg #[.slice none 0 0, .slice none 0 0], .int .i64 (st.e : Int), .int .i64 (st.line : Int)]) = .returned (.tuple #[v, .int .i64 ((st.e : Nat) : Int), .int .i64 ((st.line : Nat) : Int)]) ∧ MVal (fun b => b < T) wf v ⟨[], []⟩ ∧ Fr Nil w wf) := fun wf g => by
       have FF : Fr Nil w wf := F5.trans g (fun k hk q => by have q' : k = T := q; omega)
       exact ⟨_, rfl, ⟨_, _, fun _ => [], fun _ => [], rfl, .nil, fun i h => absurd h (Nat.not_lt_zero i), .nil, fun i h => absurd h (Nat.not_lt_zero i)⟩, FF⟩
      clear he hD5 hB5 hdis G5 F5 h5 bT5
      have neT : T ≠ pb := by omega
      have neT' : pb ≠ T := by omega
      go_wp2_with fail
      go_region
      all_goals
       go_wp2
       (try simp only [Exit.inBlock, Exit.then])
       refine bodyPost_ret (v := .tuple #[.agg #[.slice none 0 0, .slice none 0 0], .int .i64 (st.e : Int), .int .i64 (st.line : Int)]) (by simp [results, Tryz.results15, go_sem, *]) rfl ?_
       exact fin.out _ (by exact frG)
   | true =>
    obtain ⟨he, hlt⟩ := of_decide_eq_true HCD.out
    have hst := HS.out.1
    rw [hf] at hst
    unfold modF at hst
    rw [if_pos ⟨he, hlt⟩] at hst
    have HDB := Lib.hid (And.intro hD5 (And.intro hB5 (And.intro hdis (And.intro G5 bM5))))
    obtain ⟨ds, hds⟩ : ∃ ds, seesF L [100, 97, 116, 97] st = ds := ⟨_, rfl⟩
    rw [hds] at hst
    have HH := Lib.hid (And.intro he (And.intro hlt (And.intro hst hds)))
    clear he hst hds hD5 hB5 hdis G5 bM5
    go_wp2_with fail
    refine (psees_any [100, 97, 116, 97] h5).mono ?_
    rw [HH.out.2.2.2]
    rintro e w6 ⟨rfl, f6⟩
    have h6 := h5.fr f6
    have hD6 := HDB.out.1.fr lawD f6 (fun _ q => q.elim)
    have hB6 := HDB.out.2.1.fr (lawX lawB _) f6 (fun _ q => q.elim)
    have G6 := HDB.out.2.2.2.1.via f6
    have bM6 := f6.blk HDB.out.2.2.2.2 (fun q => q)
    obtain ⟨xa, xc, rfl⟩ := hD6.shape
    obtain ⟨ya, yc, rfl⟩ := hB6.shape
    have hdis := HDB.out.2.2.1
    have l6 : B ≤ w6.heap.size := by have := f6.size; omega
    have hst := HH.out.2.2.1
    have hlim := HS.out.2.2.1
    cases ds with
    | true =>
     rw [if_pos rfl] at hst
     obtain ⟨p0, p1, p2, p3, pf, pl⟩ := h6.facts
     have j6 : IntKind.i64.wrap ((st.at_ : Int) + 1) = (st.at_ : Int) + 1 := by rw [IntKind.wrap_i64]; omega
     obtain ⟨dd, s7, hdd⟩ : ∃ dd s7, dataF L (fuelP L) [] { st with at_ := st.at_ + 1 } = (dd, s7) := ⟨_, _, rfl⟩
     have hT : measP L (needF L [59] s7) + dd.length < measP L st := by
      have h1 := data_len L (fuelP L) [] { st with at_ := st.at_ + 1 }
      rw [hdd] at h1
      have h2 := measP_lt HH.out.1 hlt (Goes.refl L { st with at_ := st.at_ + 1 })
      have h3 := measP_goes (need_goes (L := L) [59] s7)
      simp only [List.length_nil] at h1
      omega
     rw [hdd] at hst
     simp only at hst
     have HST := Lib.hid (And.intro hst (And.intro hdd (And.intro (show measP L (needF L [59] s7) + 1 ≤ f from by have := HS.out.2.1; omega) (show (m.cons ++ dd).length + m.binds.length + measP L (needF L [59] s7) ≤ 1000001 from by rw [List.length_append]; omega))))
     have hddl : m.cons.length + dd.length ≤ 1000001 := by omega
     clear hst hT hdd
     go_upto_region 6 with fail
     obtain ⟨V2, hV2⟩ : ∃ V2, w6.setCell ⟨pb, 1, none⟩ (.int .i64 ((st.at_ : Int) + 1)) = V2 := ⟨_, rfl⟩
     rw [hV2]
     have fV2 : Fr (fun b => b = pb) w6 V2 := by rw [← hV2]; exact frG
     have bV2 : Blk V2 pb #[.slice av L.length cv, .int .i64 ((st.at_ : Int) + 1), .int .i64 (st.e : Int), .int .i64 (st.line : Int)] 76 := by
      rw [← hV2]
      (unfold Blk; simp (disch := first | omega | (simp; done) | (simp; omega)) only [hp_drew, hp_drewN, hp_alloc, hp_other, hp_same, hp_new, upd_cells, Option.map_some, (h6.blk).eq])
      simp
     have hPV2 : PAt V2 pb (.slice av L.length cv) L { st with at_ := st.at_ + 1 } := h6.to (t := { st with at_ := st.at_ + 1 }) fV2 bV2 hlt
     have GV : Fr (fun b => b = pb ∨ b = Tm) W3 V2 := G6.comp (fV2.mono (fun _ _ q => .inl q))
     have hDV := hD6.fr lawD fV2 (fun b q => by have q' : b = pb := q; omega)
     have hBV := hB6.fr (lawX lawB _) fV2 (fun b q => by have q' : b = pb := q; omega)
     have bMV := fV2.blk bM6 (fun q => by have q' : Tm = pb := q; omega)
     obtain ⟨cl, k1, k2, k3⟩ := hDV
     have hX1 : Hid (PAt V2 pb (.slice av L.length cv) L { st with at_ := st.at_ + 1 } ∧ Blk V2 Tm #[.slice xa m.cons.length xc, .slice ya m.binds.length yc] 26 ∧ V2.ownsRow B 68 2 (.slice xa m.cons.length xc) m.cons.length cl.flatten) := ⟨hPV2, bMV, k3⟩
     have HRV := Lib.hid (And.intro hBV (And.intro GV (And.intro hdis (And.intro k1 k2))))
     have M0 := bMV.cell 0
     simp at M0
     have Ml := bMV.lt
     have Mf := bMV.free
     have hsV := GV.size
     have lV : B ≤ V2.heap.size := by have := fV2.size; omega
     clear hV2 fV2 bV2 hPV2 hBV bMV k1 k2 k3 GV h6 hD6 hB6 bM6 G6 p0 p1 p2 p3 pf pl h5 f6
     go_region_law (first
      | (refine step_append_src (w := wa) rfl (.tmp 35) (.tmp 37) 23 rfl B 68 iD (.agg #[.string ⟨#[]⟩, .int .i64 0]) 2 24 Tryz.underlying23 hiD hzD0 hzD1 hzD2 rfl (by decide) (.slice xa m.cons.length xc) m.cons.length cl.flatten (by simp [Act.eval, Act.put]) (owns_frS hX1.out.2.2 HA.out.2.1 (fun q z y => by have y' : q = pb := y; have := (hX1.out.2.2.lt q z).1; omega)) da dd.length dc dl.flatten (by simp [Act.eval, Act.put]) HA.out.2.2.2.1 HA.out.2.2.2.2.2.2 (by unfold maxLen; omega) (by omega) (by omega) ?_; intro v' w9 hown9 hg9 hk9; have f9 : Fr (fun k => Value.ownBlock (.slice xa m.cons.length xc) = some k) wa w9 := Fr.grown (Fr.refl _ _) hg9 (fun k q _ => q); have bM9 := f9.blk HA.out.2.2.1 (fun z => by have := (hX1.out.2.2.lt _ z).1; omega); have M9 := bM9.cell 0; simp at M9; have Mf9 := bM9.free; have Ml9 := bM9.lt; obtain ⟨x9, y9, rfl⟩ := owns_shape hown9; have HO := Lib.hid (And.intro hown9 (And.intro f9 (And.intro hk9 bM9))); clear hown9 f9 hk9 bM9 hg9)
      | (go_simp; go_at_call 26; refine (pdata_any (hX1.out.1.fr (by exact frA))).mono ?_; rw [HST.out.2.1]; rintro e wa ⟨va, rfl, hva, ha, fa⟩; have fa' : Fr (fun b => b = pb) V2 wa := Fr.trans (S := fun b => b = pb) (by exact frG) fa (fun _ _ q => q); obtain ⟨dl, g1, g2, g3⟩ := hva; obtain ⟨da, dc, rfl, hsrc⟩ := owns_src g3; have bMa := fa'.blk hX1.out.2.1 (fun q => by have q' : Tm = pb := q; omega); have Ma := bMa.cell 0; simp at Ma; have Mla := bMa.lt; have Mfa := bMa.free; have hsa := fa'.size; have g2' : ∀ i (h : i < dl.length) (h' : i < dd.length), DAt (fun _ => False) wa dl[i] dd[i] := fun i h h' => g2 i h h'; have HA := Lib.hid (And.intro ha (And.intro fa' (And.intro bMa (And.intro hsrc (And.intro g1 (And.intro g2' (one_flatD g1 g2'))))))); clear ha fa fa' g1 g2 g2' g3 hsrc bMa))
     all_goals
      have hk9 : ∀ k, Value.ownBlock (.slice x9 (m.cons.length + dd.length) y9) = some k → Value.ownBlock (.slice xa m.cons.length xc) = some k ∨ wa.heap.size ≤ k := fun k q => by
       rcases HO.out.2.2.1 with z | z
       · exact .inl (z ▸ q)
       · rw [z] at q; cases q; exact .inr (Nat.le_refl _)
      have E := data_end (Te := Tm) HW.out.1 HW.out.2.1 HW.out.2.2.1 (by rw [HW.out.2.2.2.1]; exact Nat.le_refl _) l3 HRV.out.2.1 HRV.out.2.2.2.1 HRV.out.2.2.2.2 hX1.out.2.2 HRV.out.1 HRV.out.2.2.1 HA.out.1 HA.out.2.1 HA.out.2.2.2.2.1 HA.out.2.2.2.2.2.1 HO.out.1 HO.out.2.1 hk9 (wf := w9.setCell ⟨Tm, 0, none⟩ (.slice x9 (m.cons.length + dd.length) y9)) (by exact frG)
      have bMF : Blk (w9.setCell ⟨Tm, 0, none⟩ (.slice x9 (m.cons.length + dd.length) y9)) Tm #[.slice x9 (m.cons.length + dd.length) y9, .slice ya m.binds.length yc] 26 := by
       (unfold Blk; simp (disch := first | omega | (simp; done) | (simp; omega)) only [hp_drew, hp_drewN, hp_alloc, hp_other, hp_same, hp_new, upd_cells, Option.map_some, (HO.out.2.2.2).eq])
       simp
      go_wp2_with fail
      go_roundg f
      case rel => exact ⟨⟨m.cons ++ dd, m.binds⟩, needF L [59] s7, .slice x9 (m.cons.length + dd.length) y9, .slice ya m.binds.length yc, Lib.hid ⟨HST.out.1, HST.out.2.2.1, HST.out.2.2.2, E.1, E.2.1, E.2.2.1, E.2.2.2.1, bMF, E.2.2.2.2⟩⟩
      case measure => omega
    | false =>
     rw [if_neg (by decide)] at hst
     obtain ⟨A1, s7, hA1⟩ : ∃ A1 s7, bindF L (exprF L 200) st = (A1, s7) := ⟨_, _, rfl⟩
     have hT : measP L (needF L [59] s7) < measP L st := by
      have h1 := bind_meas (L := L) (ex := exprF L 200) (expr_goes L 200) HH.out.1
      rw [hA1] at h1
      have h3 := measP_goes (need_goes (L := L) [59] s7)
      simp only at h1
      omega
     rw [hA1] at hst
     simp only at hst
     have hbl : m.binds.length + 1 ≤ 1000001 := by omega
     have HST := Lib.hid (And.intro hst (And.intro hA1 (And.intro (show measP L (needF L [59] s7) + 1 ≤ f from by have := HS.out.2.1; omega) (show m.cons.length + (m.binds ++ [A1]).length + measP L (needF L [59] s7) ≤ 1000001 from by rw [List.length_append, List.length_singleton]; omega))))
     obtain ⟨cl, k3⟩ := hB6.cells
     have hX1 : Hid (PAt w6 pb (.slice av L.length cv) L st ∧ Blk w6 Tm #[.slice xa m.cons.length xc, .slice ya m.binds.length yc] 26 ∧ w6.ownsRow B 51 10 (.slice ya m.binds.length yc) m.binds.length cl) := ⟨h6, bM6, k3⟩
     have HRV := Lib.hid (And.intro hB6 (And.intro G6 (And.intro hdis hD6)))
     have M0 := bM6.cell 1
     simp at M0
     have Ml := bM6.lt
     have Mf := bM6.free
     have hs6 := G6.size
     have hexpr := Lib.hid (pexpr_all pb (.slice av L.length cv) L 200 1 (by decide))
     clear hst hT hA1 hB6 hD6 bM6 G6 k3 h6 h5 f6 hdis
     go_upto_region 7 with fail
     go_region_law (first
      | (refine step_push (w := wa) rfl (.tmp 41) (.tmp 44) 24 rfl B 51 i0 (.agg #[.string ⟨#[]⟩, .slice none 0 0, .int .i64 0, .string ⟨#[]⟩, .bool false, .int .u64 0, .slice none 0 0, .slice none 0 0, .slice none 0 0, .slice none 0 0]) 10 176 Tryz.underlying24 hi hz0 hz1 hz2 rfl (by decide) (.slice ya m.binds.length yc) (m.binds.length) cl (by simp [Act.eval, Act.put]) (owns_frS hX1.out.2.2 HA.out.2.1 (fun q z y => by have y' : q = pb := y; have := (hX1.out.2.2.lt q z).1; omega)) [.string bn, .slice pa pn pc, .int .i64 (k' : Int), .string nm', .bool fl', .int .u64 (bi' : Int), .slice b0 m0 d0, .slice b1 m1 d1, .slice b2 m2 d2, .slice b3 m3 d3] (by simp [Act.eval, Act.put]) rfl (by simp [Value.oneCell']) (by unfold maxLen; omega) (by omega) (by omega) ?_; intro v' w9 hown9 f9 hk9; have bM9 := f9.blk HA.out.2.2.1 (fun z => by have := (hX1.out.2.2.lt _ z).1; omega); have M9 := bM9.cell 1; simp at M9; have Mf9 := bM9.free; have Ml9 := bM9.lt; obtain ⟨x9, y9, rfl⟩ := owns_shape hown9; have HO := Lib.hid (And.intro hown9 (And.intro f9 (And.intro hk9 bM9))); clear hown9 f9 hk9 bM9)
      | (go_simp; go_at_call 27; refine (pbind_any (deep := 0) (hX1.out.1.fr (by exact frA)) (by omega) hexpr.out).mono ?_; rw [HST.out.2.1]; rintro e wa ⟨va, rfl, hva, ha, fa⟩; have fa' : Fr (fun b => b = pb) w6 wa := Fr.trans (S := fun b => b = pb) (by exact frG) fa (fun _ _ q => q); obtain ⟨bn, pa, pn, pc, k', nm', fl', bi', b0, m0, d0, b1, m1, d1, b2, m2, d2, b3, m3, d3, rfl, hAA⟩ := bval_form hva; have hAA : BAt (fun b => b < w6.heap.size) wa _ _ := hAA; have bMa := fa'.blk hX1.out.2.1 (fun q => by have q' : Tm = pb := q; omega); have Ma := bMa.cell 1; simp at Ma; have Mla := bMa.lt; have Mfa := bMa.free; have hsa := fa'.size; have HA := Lib.hid (And.intro ha (And.intro fa' (And.intro bMa hAA))); clear ha fa fa' hva bMa hAA))
     all_goals
      have hD6 := HRV.out.2.2.2
      have hAA := HA.out.2.2.2
      have gf : Fr (fun b => b = Tm) w9 (w9.setCell ⟨Tm, 1, none⟩ (.slice x9 (m.binds.length + 1) y9)) := by exact frG
      have E := row_end (Te := Tm) (R := RX (fun b => Value.ownBlock (.slice xa m.cons.length xc) = some b) BAt) (lawX lawB _) HW.out.1 HW.out.2.1 HW.out.2.2.1 (by rw [HW.out.2.2.2.1]; exact Nat.le_refl _) l3 HRV.out.2.1 HRV.out.1 HA.out.1 HA.out.2.1 (lawB.mono hAA (fun b hb q => by rcases q with q | q; exact q; exact (hD6.own b q).2)) hX1.out.2.2 HO.out.1 HO.out.2.1 HO.out.2.2.1 gf
      have hlB := HRV.out.1.own
      have hDf := ((hD6.frD HA.out.2.1 (fun k q e => by have := (hD6.own k q).1; have e' : k = pb := e; omega)).frD HO.out.2.1 (fun k q e => HRV.out.2.2.1 k q e)).frD gf (fun k q e => by have := (hD6.own k q).1; have e' : k = Tm := e; omega)
      have hdis9 : ∀ k, Value.ownBlock (.slice xa m.cons.length xc) = some k → Value.ownBlock (.slice x9 (m.binds.length + 1) y9) ≠ some k := fun k q e => by
       rcases HO.out.2.2.1 k e with z | z
       · exact HRV.out.2.2.1 k q z
       · have := (hD6.own k q).2; omega
      have bMF : Blk (w9.setCell ⟨Tm, 1, none⟩ (.slice x9 (m.binds.length + 1) y9)) Tm #[.slice xa m.cons.length xc, .slice x9 (m.binds.length + 1) y9] 26 := by
       (unfold Blk; simp (disch := first | omega | (simp; done) | (simp; omega)) only [hp_drew, hp_drewN, hp_alloc, hp_other, hp_same, hp_new, upd_cells, Option.map_some, (HO.out.2.2.2).eq])
       simp
      have HE := Lib.hid (And.intro E (And.intro hDf (And.intro hdis9 bMF)))
      obtain ⟨W9, hW9⟩ : ∃ W9, w9.setCell ⟨Tm, 1, none⟩ (.slice x9 (m.binds.length + 1) y9) = W9 := ⟨_, rfl⟩
      rw [hW9] at HE ⊢
      clear E hDf hdis9 bMF gf hAA hW9 M0 Ml Mf Ma Mla Mfa M9 Mf9 Ml9 hlB hD6
      have l9 : B ≤ W9.heap.size := by have := HE.out.1.2.2.1.size; rw [HW.out.2.2.1] at this; exact this
      go_wp2_with fail
      refine (pneed_any [59] HE.out.1.2.1).mono ?_
      rintro e wb ⟨rfl, hb, fb⟩
      go_wp2_with fail
      go_roundg f
      case rel => exact ⟨⟨m.cons, m.binds ++ [A1]⟩, needF L [59] s7, .slice xa m.cons.length xc, .slice x9 (m.binds.length + 1) y9, Lib.hid ⟨HST.out.1, HST.out.2.2.1, HST.out.2.2.2, HE.out.2.1.fr lawD fb (fun b q => by have q' : b = pb := q; omega), by rw [List.length_append] at *; exact HE.out.1.1.fr (lawX lawB _) fb (fun b q => by have q' : b = pb := q; omega), HE.out.2.2.1, hb, fb.blk HE.out.2.2.2 (fun q => by have q' : Tm = pb := q; omega), HE.out.1.2.2.1.comp (fb.mono (fun _ _ q => .inl q))⟩⟩
      case measure => omega
end
theorem flatT_get8 (l : List TokV) (i : Nat) (hi : i < l.length) (k : Nat) (hk : k < 5) : (flatT l)[i * 5 + k]? = (tokCells l[i])[k]? := by
 induction l generalizing i with
 | nil => simp at hi
 | cons t l ih =>
  have e : flatT (t :: l) = tokCells t ++ flatT l := rfl
  have hl : (tokCells t).length = 5 := rfl
  rw [e]
  cases i with
  | zero =>
   rw [List.getElem?_append_left (by rw [hl]; omega)]
   simp
  | succ i =>
   rw [List.getElem?_append_right (by rw [hl]; omega), hl, show (i + 1) * 5 + k - 5 = i * 5 + k by omega]
   exact ih i (by simpa using hi)
theorem lexG_size8 : ∀ (n : Nat) (acc : List TokV) (l : List UInt8) (line : Nat), acc.length ≤ 4096 → (lexG n acc l line).toks.length ≤ 4096 := by
 intro n
 induction n with
 | zero => intro acc l line h; exact h
 | succ n ih =>
  intro acc l line h
  by_cases hl : l = []
  · subst hl; rw [lexG_end]; exact h
  · by_cases he : (oneF l line).2 = 0
    · by_cases hf : acc.length = 4096
      · rw [lexG_full hl he hf]; simp
      · rw [lexG_more hl he hf]
        exact ih _ _ _ (by simp; omega)
    · rw [lexG_bad hl he]; simp
theorem lexF_size8 (l : List UInt8) : (lexF l).toks.length ≤ 4096 := by
 unfold lexF
 exact lexG_size8 _ _ _ _ (by simp)
theorem toks_row {base : Nat} {w : World} {v : Value} {l : List TokV} (h : ToksAt base w v l) : RowC (fun _ => False) w v l.length 5 (fun i => tokCells (l.getD i (none_ 0))) := by
 refine RowC.of_own h (fun b q => q.elim) (fun i hi => rfl) (fun i hi j u hj => ?_)
 have hj5 : j < 5 := (List.getElem?_eq_some_iff.1 hj).1
 rw [flatT_get8 l i hi j hj5, ← hj]
 simp [List.getD, hi]
section
theorem rparse_src (s : ByteArray) (w : World) (hs : s.size ≤ 1000000) :
 Calls Tryz.prog 12 #[.string s] w fun r w' => ∃ v, r = .returned (.tuple #[v, .int .i64 (parseF s.data.toList).2.1, .int .i64 ((parseF s.data.toList).2.2 : Int)]) ∧ MVal (fun b => b < w.heap.size) w' v (parseF s.data.toList).1 ∧ Fr Nil w w' := by
 obtain ⟨X, hX⟩ : ∃ X, lexF s.data.toList = X := ⟨_, rfl⟩
 obtain ⟨⟨rm, re, rl⟩, hR⟩ : ∃ x, parseF s.data.toList = x := ⟨_, rfl⟩
 rw [hR]
 show Calls _ _ _ _ fun r w' => ∃ v, r = .returned (.tuple #[v, .int .i64 re, .int .i64 (rl : Int)]) ∧ MVal (fun b => b < w.heap.size) w' v rm ∧ Fr Nil w w'
 unfold parseF at hR
 rw [hX] at hR
 obtain ⟨⟨tm, te, tl⟩, hT⟩ : ∃ x, tokensF X.toks = x := ⟨_, rfl⟩
 rw [hT] at hR
 simp only at hR
 have hsz := lexF_size8 s.data.toList
 rw [hX] at hsz
 obtain ⟨T, hTT⟩ : ∃ T, w.heap.size = T := ⟨_, rfl⟩
 obtain ⟨xe, hxe⟩ : ∃ e, X.err = e := ⟨_, rfl⟩
 obtain ⟨xl, hxl⟩ : ∃ e, X.line = e := ⟨_, rfl⟩
 rw [hxe, hxl] at hR
 have HX := Lib.hid (And.intro hX (And.intro hT (And.intro hsz (And.intro hxe hxl))))
 have HR := Lib.hid hR
 clear hX hR hT hsz hxe hxl
 rw [hTT]
 go_enter Tryz.func12, Tryz.ntmps12
 go_upto_region 1 with fail
 obtain ⟨W1, hW1⟩ : ∃ W1, w.alloc (.cells #[.slice none 0 0, .slice none 0 0] 26) = W1 := ⟨_, rfl⟩
 rw [hW1]
 have f1 : Fr Nil w W1 := by rw [← hW1]; exact frA
 have bT1 : Blk W1 T #[.slice none 0 0, .slice none 0 0] 26 := by
  rw [← hW1, ← hTT]
  exact Blk.new w #[.slice none 0 0, .slice none 0 0] 26
 clear hW1
 go_wp2_with fail
 refine (rlex_any s W1 hs).mono ?_
 rw [HX.out.1, HX.out.2.2.2.1, HX.out.2.2.2.2]
 rintro e w2 ⟨v, rfl, ht, f2⟩
 have F2 := f1.comp f2
 have bT2 := f2.blk bT1 (fun q => q)
 have hrow := toks_row ht
 have hs2 := F2.size
 clear ht f2 f1 bT1
 have Tc0 := bT2.cell 0
 have Tc1 := bT2.cell 1
 simp at Tc0 Tc1
 have Tf := bT2.free
 have Tl := bT2.lt
 by_cases he : xe = 0
 · subst he
   have hq := HR.out
   rw [if_neg (by simp)] at hq
   cases hq
   have H2 := Lib.hid (And.intro F2 (And.intro bT2 hrow))
   clear F2 bT2 hrow
   go_wp2_with fail
   refine (ptokens_any H2.out.2.2 (by have := HX.out.2.2.1; omega)).mono ?_
   rw [HX.out.2.1]
   rintro e w3 ⟨va, rfl, hm, f3⟩
   obtain ⟨xv, yv, cs, bs, rfl, h1, h2, h3, h4⟩ := hm
   obtain ⟨xa, xc, rfl⟩ := h1.shape
   obtain ⟨ya, yc, rfl⟩ := h3.shape
   have bT3 := f3.blk H2.out.2.1 (fun q => q)
   have F3 := H2.out.1.comp f3
   have hs3 := f3.size
   have h1' : RowC (fun b => b < w2.heap.size) w3 _ _ 2 cs := h1
   have h3' : RowC (fun b => b < w2.heap.size) w3 _ _ 10 bs := h3
   have h4' : ∀ i (h : i < rm.binds.length), BAt (fun b => b < w2.heap.size) w3 (bs i) rm.binds[i] := h4
   have h2' : ∀ i (h : i < rm.cons.length), cs i = [.string ⟨rm.cons[i].1.toArray⟩, .int .i64 (rm.cons[i].2 : Int)] := h2
   have fin : Hid (∀ wf, Fr (fun b => b = T) w3 wf → ∃ v, Ending.returned (.tuple #[.agg #[.slice xa rm.cons.length xc, .slice ya rm.binds.length yc], .int .i64 (te : Int), .int .i64 (rl : Int)]) = .returned (.tuple #[v, .int .i64 (te : Int), .int .i64 (rl : Int)]) ∧ MVal (fun b => b < T) wf v rm ∧ Fr Nil w wf) := fun wf g => by
    have FF : Fr Nil w wf := F3.trans g (fun k hk q => by have q' : k = T := q; omega)
    refine ⟨_, rfl, ⟨_, _, cs, bs, rfl, (h1'.fr g (fun b q => by have q' : b = T := q; omega)).mono (by decide) (fun b _ q => by omega), h2', (h3'.fr g (fun b q => by have q' : b = T := q; omega)).mono (by decide) (fun b _ q => by omega), fun i hi => ?_⟩, FF⟩
    exact lawB.mono (lawB.fr (h4' i hi) g (fun b q => by have q' : b = T := q; omega)) (fun b _ q => by omega)
   have Uc0 := bT3.cell 0
   have Uc1 := bT3.cell 1
   simp at Uc0 Uc1
   have Uf := bT3.free
   have Ul := bT3.lt
   clear h1 h2 h3 h4 h1' h2' h3' h4' F3 f3 bT3 Tc0 Tc1 Tf
   go_wp2
   (try simp only [Exit.inBlock, Exit.then])
   refine bodyPost_ret (v := .tuple #[.agg #[.slice xa rm.cons.length xc, .slice ya rm.binds.length yc], .int .i64 (te : Int), .int .i64 (rl : Int)]) (by simp [results, Tryz.results12, go_sem, *]) rfl ?_
   exact fin.out _ (by exact frG)
 · have hq := HR.out
   rw [if_pos he] at hq
   cases hq
   have d1 : (re == 0) = false := by simpa using he
   have fin : Hid (∀ wf, Fr (fun b => b = T) w2 wf → ∃ v, Ending.returned (.tuple #[.agg #[.slice none 0 0, .slice none 0 0], .int .i64 re, .int .i64 (rl : Int)]) = .returned (.tuple #[v, .int .i64 re, .int .i64 (rl : Int)]) ∧ MVal (fun b => b < T) wf v ⟨[], []⟩ ∧ Fr Nil w wf) := fun wf g => by
    have FF : Fr Nil w wf := F2.trans g (fun k hk q => by have q' : k = T := q; omega)
    exact ⟨_, rfl, ⟨_, _, fun _ => [], fun _ => [], rfl, .nil, fun i h => absurd h (Nat.not_lt_zero i), .nil, fun i h => absurd h (Nat.not_lt_zero i)⟩, FF⟩
   clear F2 bT2 hrow
   go_wp2
   (try simp only [Exit.inBlock, Exit.then])
   refine bodyPost_ret (v := .tuple #[.agg #[.slice none 0 0, .slice none 0 0], .int .i64 re, .int .i64 (rl : Int)]) (by simp [results, Tryz.results12, go_sem, *]) rfl ?_
   exact fin.out _ (by exact frG)
end
end Go.Proofs.YtlnmicddobgppaaGreatDoor
