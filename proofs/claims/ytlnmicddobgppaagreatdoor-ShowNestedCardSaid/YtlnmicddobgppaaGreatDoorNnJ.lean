/-
  An expression (layer 8): a let. No conditions.
-/
import Derived.Test.YtlnmicddobgppaaGreatDoorNnI
import Derived.Test.YtlnmicddobgppaaGreatDoorNnA
namespace Go.Proofs.YtlnmicddobgppaaGreatDoor
set_option maxRecDepth 100000
set_option linter.unusedSimpArgs false
set_option linter.unusedVariables false
open Go.RowKit
theorem bval_form {X : Nat → Prop} {w : World} {v : Value} {t : TB} (h : BVal X w v t) : ∃ (bn : ByteArray) (pa : Option Addr) (pn pc k' : Nat) (nm' : ByteArray) (fl' : Bool) (bi' : Nat) (b0 : Option Addr) (m0 d0 : Nat) (b1 : Option Addr) (m1 d1 : Nat) (b2 : Option Addr) (m2 d2 : Nat) (b3 : Option Addr) (m3 d3 : Nat),
 v = .agg #[.string bn, .slice pa pn pc, .int .i64 (k' : Int), .string nm', .bool fl', .int .u64 (bi' : Int), .slice b0 m0 d0, .slice b1 m1 d1, .slice b2 m2 d2, .slice b3 m3 d3] ∧ BAt X w [.string bn, .slice pa pn pc, .int .i64 (k' : Int), .string nm', .bool fl', .int .u64 (bi' : Int), .slice b0 m0 d0, .slice b1 m1 d1, .slice b2 m2 d2, .slice b3 m3 d3] t := by
 obtain ⟨pn, cs, rfl, h1, h2⟩ := h
 obtain ⟨pa, pc, rfl⟩ := RowC.shape h1
 obtain ⟨k, nm, fl, bi, a0, n0, c0, a1, n1, c1, a2, n2, c2, a3, n3, c3, rfl⟩ := h2.form
 exact ⟨_, _, _, _, _, _, _, _, _, _, _, _, _, _, _, _, _, _, _, _, rfl, _, _, rfl, h1, h2⟩
def RX {α : Type} (K : Nat → Prop) (R : (Nat → Prop) → World → List Value → α → Prop) : (Nat → Prop) → World → List Value → α → Prop := fun X w c a => R (fun b => X b ∨ K b) w c a
theorem lawX {α : Type} {R : (Nat → Prop) → World → List Value → α → Prop} {size : Nat} (law : ElemLaw R size) (K : Nat → Prop) : ElemLaw (RX K R) size :=
 ⟨fun h f hs => law.fr h f (fun b q => .inl (hs b q)), fun h hs => law.mono h (fun b hb q => q.imp (hs b hb) id), fun h => law.len h⟩
theorem RowsAt.frK {α : Type} {R : (Nat → Prop) → World → List Value → α → Prop} {size : Nat} {t : TypeId} {base : Nat} {w w' : World} {v : Value} {acc : List α} {S K : Nat → Prop} (law : ElemLaw R size) (h : RowsAt (RX K R) size t base w v acc) (f : Fr S w w') (hs : ∀ b, S b → b < base ∨ K b) (ho : ∀ k, v.ownBlock = some k → ¬ S k) : RowsAt (RX K R) size t base w' v acc := by
 obtain ⟨cl, h1, h2, h3⟩ := h
 exact ⟨cl, h1, fun i a b => law.fr (h2 i a b) f (fun b q => (hs b q).elim (fun z => .inl (.inl z)) .inr), owns_frS h3 f ho⟩
theorem row_end2 {α : Type} {R : (Nat → Prop) → World → List Value → α → Prop} {size : Nat} {t : TypeId} {w w4 w0 wa w9 wf : World} {pb Te B : Nat} {vT v v' : Value} {L : List TokV} {s st' : PS} {acc : List α} {c cl : List Value} {a : α} (law : ElemLaw R size)
 (h0 : PAt w pb vT L s) (F4 : Fr (fun b => b = pb) w w4) (hB : w4.heap.size = B) (hTB : B ≤ Te) (hT0 : Te < w0.heap.size) (F0 : Fr (fun b => b = pb) w4 w0) (HR : RowsAt (RX (fun b => b = Te) R) size t B w0 v acc) (hvT : v.ownBlock ≠ some Te) (ha : PAt wa pb vT L st') (fa : Fr (fun b => b = pb) w0 wa)
 (he : R (fun b => b < w0.heap.size) wa c a) (hcl : w0.ownsRow B t size v acc.length cl) (ho : w9.ownsRow B t size v' (acc.length + 1) (cl ++ c)) (f9 : Fr (fun k => v.ownBlock = some k) wa w9) (hk : ∀ k, v'.ownBlock = some k → v.ownBlock = some k ∨ wa.heap.size ≤ k) (gf : Fr (fun b => b = Te) w9 wf) :
 RowsAt (RX (fun b => b = Te) R) size t B wf v' (acc ++ [a]) ∧ PAt wf pb vT L st' ∧ Fr (fun b => b = pb) w4 wf ∧ v'.ownBlock ≠ some Te := by
 have hpb := h0.blk.lt
 have hown := HR.own
 have hs0 := F0.size
 have hs4 := F4.size
 have hsa := fa.size
 have hRa := HR.fr (lawX law _) fa (fun b q => by omega)
 have hcla := owns_frS hcl fa (fun k q e => by have := (hown k q).1; have e' : k = pb := e; omega)
 have hv9 : v'.ownBlock ≠ some Te := fun q => by
  rcases hk Te q with z | z
  · exact hvT z
  · omega
 have hR9 := (hRa.push (lawX law _) (law.mono he (fun b _ q => by
  rcases q with (q | q) | q
  · omega
  · exact (hown b q).2
  · omega)) hcla ho f9 hk).frK law gf (fun b q => .inr q) (fun k q e => hv9 (by have e' : k = Te := e; rw [← e']; exact q))
 have G : Fr (fun b => b = pb) w4 wf := ((F0.comp fa).trans f9 (fun k hk2 q => by have := (hown k q).1; omega)).trans gf (fun k hk2 q => by have q' : k = Te := q; omega)
 have FF : Fr (fun b => b = pb) w wf := F4.comp G
 refine ⟨hR9, h0.keep FF ha (S := fun b => b = Te ∨ v.ownBlock = some b) ((f9.mono (fun _ _ q => Or.inr q)).trans gf (fun _ _ q => .inl q)) (fun q => ?_), G, hv9⟩
 rcases q with q | q
 · omega
 · have := (hown pb q).1; omega
theorem RowsAt.one {α : Type} {R : (Nat → Prop) → World → List Value → α → Prop} {size : Nat} {t : TypeId} {base b : Nat} {w : World} {c : List Value} {a : α} (h : Blk w b c.toArray t) (hl : c.length = size) (hb : base ≤ b) (he : R (fun x => x < base ∨ some b = some x) w c a) : RowsAt R size t base w (.slice (some ⟨b, 0, none⟩) 1 1) [a] :=
 ⟨[c], rfl, fun i hi hi' => by
  have e : i = 0 := by simp at hi; exact hi
  subst e
  exact he, by simp [hl], .inr ⟨b, 1, c.toArray, rfl, hb, h, Nat.le_refl _, by unfold maxLen; omega, by simp [hl], by simp; rw [← hl]; exact List.take_length⟩⟩
section
variable {w : World} {pb : Nat} {vT : Value} {L : List TokV} {s : PS} {deep : Nat} {ex : PS → TE × PS}
set_option maxHeartbeats 8000000 in
theorem pexpr_let (h : PAt w pb vT L s) (he : s.e = 0) (hd : deep ≤ 200) (hl : seesF L [108, 101, 116] s = true) (hgo : ∀ s, Goes L s (ex s).2) (hex : Reads pb vT L 61 ((deep : Int) + 1) ex) :
 Calls Tryz.prog 61 #[.pointer (some ⟨pb, 0, none⟩), .int .i64 (deep : Int)] w fun r w' => ∃ v, r = .returned v ∧ EVal (fun b => b < w.heap.size) w' v (letF L ex s).1 ∧ PAt w' pb vT L (letF L ex s).2 ∧ Fr (fun b => b = pb) w w' := by
 obtain ⟨i0, hi, hz0, hz1, hz2⟩ := info_parts infoB
 obtain ⟨p0, p1, p2, p3, pf, pl⟩ := h.facts
 have hpl := h.blk.lt
 have HP := Lib.hid h
 obtain ⟨T, hT⟩ : ∃ T, w.heap.size = T := ⟨_, rfl⟩
 rw [hT] at hpl ⊢
 have hne : T ≠ pb := by omega
 have i2 : (s.e : Int) = 0 := by omega
 rw [i2] at p2
 have i3 : ¬ (200 : Int) < (deep : Int) := by omega
 have hlt := sees_lt hl
 have hszL := h.sz
 have j2 : IntKind.i64.wrap ((s.at_ : Int) + 1) = (s.at_ : Int) + 1 := by rw [IntKind.wrap_i64]; omega
 have j1 : IntKind.i64.wrap ((deep : Int) + 1) = (deep : Int) + 1 := by rw [IntKind.wrap_i64]; omega
 obtain ⟨A0, s1, hA⟩ : ∃ A0 s1, bindF L ex { s with at_ := s.at_ + 1 } = (A0, s1) := ⟨_, _, rfl⟩
 obtain ⟨RA, hRA⟩ : ∃ RA, bindsF L ex (fuelP L) [A0] s1 = RA := ⟨_, rfl⟩
 have e0 : letF L ex s = (.mk 6 [] false 0 [] [(ex (needF L [105, 110] RA.2)).1] RA.1 [], (ex (needF L [105, 110] RA.2)).2) := by unfold letF; rw [hA]; simp only [hRA]
 rw [e0]
 obtain ⟨F, hF⟩ : ∃ F, fuelP L = F := ⟨_, rfl⟩
 have hm := measP_le L s1
 rw [hF] at hRA hm
 have hF2 : F ≤ 1000002 := by unfold fuelP at hF; omega
 have HQ := Lib.hid (And.intro hA (And.intro hRA hm))
 clear hA hRA hm hF e0
 clear h
 go_enter Tryz.func61, Tryz.ntmps61
 go_upto_region 1 with fail
 obtain ⟨W0, hW0⟩ : ∃ W0, w.alloc (.cells #[.int .i64 0, .string ⟨#[]⟩, .bool false, .int .u64 0, .slice none 0 0, .slice none 0 0, .slice none 0 0, .slice none 0 0] 49) = W0 := ⟨_, rfl⟩
 have f0 : Fr Nil w W0 := by rw [← hW0]; exact frA
 have bT0 : Blk W0 T #[.int .i64 0, .string ⟨#[]⟩, .bool false, .int .u64 0, .slice none 0 0, .slice none 0 0, .slice none 0 0, .slice none 0 0] 49 := by
  rw [← hW0]
  have h := Blk.new w #[.int .i64 0, .string ⟨#[]⟩, .bool false, .int .u64 0, .slice none 0 0, .slice none 0 0, .slice none 0 0, .slice none 0 0] 49
  rw [hT] at h
  exact h
 have h0 := HP.out.fr f0
 rw [hW0]
 have p2 := f0.cell p2 (by simp [Nil])
 have pl0 := f0.lt pl
 clear hW0 p0 p1 p3 pf
 go_wp2_with fail
 refine (psees_any [108, 101, 116] h0).mono ?_
 rw [hl]
 rintro e w1 ⟨rfl, f1⟩
 have h1 := h0.fr f1
 have bT1 := f1.blk bT0 (fun q => q)
 have F1 : Fr (fun b => b = pb) w w1 := Fr.of_nil (f0.comp f1)
 clear p2 pl0 pl f0 h0 bT0 f1
 obtain ⟨p0, p1, p2, p3, pf, pl⟩ := h1.facts
 go_upto_region 10 with fail
 obtain ⟨V, hV⟩ : ∃ V, w1.setCell ⟨pb, 1, none⟩ (.int .i64 ((s.at_ : Int) + 1)) = V := ⟨_, rfl⟩
 rw [hV]
 have fV : Fr (fun b => b = pb) w1 V := by rw [← hV]; exact frG
 have bV : Blk V pb #[vT, .int .i64 ((s.at_ : Int) + 1), .int .i64 (s.e : Int), .int .i64 (s.line : Int)] 76 := by
  rw [← hV]
  (unfold Blk; simp (disch := first | omega | (simp; done) | (simp; omega)) only [hp_drew, hp_drewN, hp_alloc, hp_other, hp_same, hp_new, upd_cells, Option.map_some, (h1.blk).eq])
  simp
 have hPV : PAt V pb vT L { s with at_ := s.at_ + 1 } := h1.to fV bV hlt
 have bTV := fV.blk bT1 hne
 have FV := F1.comp fV
 have hTV := bTV.lt
 obtain ⟨B, hB⟩ : ∃ B, V.heap.size = B := ⟨_, rfl⟩
 clear hV bV fV h1 bT1 F1 p0 p1 p2 p3 pf pl
 go_wp2_with fail
 refine (pbind_any hPV (by omega) hex).mono ?_
 rw [HQ.out.1]
 rintro e w2 ⟨va, rfl, hva, h2, f2⟩
 have h2 : PAt w2 pb vT L s1 := h2
 have hva : BVal (fun b => b < V.heap.size) w2 va A0 := hva
 obtain ⟨bn, pa, pn, pc, k', nm', fl', bi', b0, m0, d0, b1, m1, d1, b2, m2, d2, b3, m3, d3, rfl, hBB⟩ := bval_form hva
 have bT2 := f2.blk bTV hne
 have hs2 := f2.size
 obtain ⟨Tb, hTb⟩ : ∃ Tb, w2.heap.size = Tb := ⟨_, rfl⟩
 go_wp2_with fail
 try rw [hTb]
 obtain ⟨W2, hW2⟩ : ∃ W2, (w2.alloc (.cells #[.string bn, .slice pa pn pc, .int .i64 (k' : Int), .string nm', .bool fl', .int .u64 (bi' : Int), .slice b0 m0 d0, .slice b1 m1 d1, .slice b2 m2 d2, .slice b3 m3 d3] 51)).alloc (.cells #[.int .i64 6, .string ⟨#[]⟩, .bool false, .int .u64 0, .slice none 0 0, .slice none 0 0, .slice (some ⟨Tb, 0, none⟩) 1 1, .slice none 0 0] 49) = W2 := ⟨_, rfl⟩
 rw [hW2]
 have g2 : Fr Nil w2 W2 := by rw [← hW2]; exact frA
 have bB2 : Blk W2 Tb [.string bn, .slice pa pn pc, .int .i64 (k' : Int), .string nm', .bool fl', .int .u64 (bi' : Int), .slice b0 m0 d0, .slice b1 m1 d1, .slice b2 m2 d2, .slice b3 m3 d3].toArray 51 := by
  rw [← hW2]
  have h := Blk.new w2 [.string bn, .slice pa pn pc, .int .i64 (k' : Int), .string nm', .bool fl', .int .u64 (bi' : Int), .slice b0 m0 d0, .slice b1 m1 d1, .slice b2 m2 d2, .slice b3 m3 d3].toArray 51
  rw [hTb] at h
  exact ((Fr.refl Nil _).alloc _).blk h (fun q => q)
 have bE2 : Blk W2 (Tb + 1) #[.int .i64 6, .string ⟨#[]⟩, .bool false, .int .u64 0, .slice none 0 0, .slice none 0 0, .slice (some ⟨Tb, 0, none⟩) 1 1, .slice none 0 0] 49 := by
  rw [← hW2]
  have h := Blk.new (w2.alloc (.cells #[.string bn, .slice pa pn pc, .int .i64 (k' : Int), .string nm', .bool fl', .int .u64 (bi' : Int), .slice b0 m0 d0, .slice b1 m1 d1, .slice b2 m2 d2, .slice b3 m3 d3] 51)) #[.int .i64 6, .string ⟨#[]⟩, .bool false, .int .u64 0, .slice none 0 0, .slice none 0 0, .slice (some ⟨Tb, 0, none⟩) 1 1, .slice none 0 0] 49
  rw [show (w2.alloc (.cells #[.string bn, .slice pa pn pc, .int .i64 (k' : Int), .string nm', .bool fl', .int .u64 (bi' : Int), .slice b0 m0 d0, .slice b1 m1 d1, .slice b2 m2 d2, .slice b3 m3 d3] 51)).heap.size = Tb + 1 by simp [hTb]] at h
  exact h
 have hneE : Tb + 1 ≠ pb := by omega
 have hrow : RowsAt (RX (fun b => b = Tb + 1) BAt) 10 51 B W2 (.slice (some ⟨Tb, 0, none⟩) 1 1) [A0] :=
  RowsAt.one bB2 rfl (by omega) (lawB.mono (lawB.fr (lawB.mono (Y := fun b => b < B ∨ Tb ≤ b) hBB (fun b hb q => by rcases q with q | q <;> omega)) g2 (fun _ q => q.elim)) (fun b hb q => by
   rcases q with (q | q) | q
   · exact .inl q
   · cases q; exact .inr (Nat.le_refl _)
   · exact .inr (by omega)))
 have G2 : Fr (fun b => b = pb) V W2 := f2.via g2
 have HS0 := Lib.hid (And.intro hrow (And.intro (h2.fr g2) (And.intro bE2 G2)))
 have HT := Lib.hid (And.intro FV bTV)
 have hpl2 := HP.out.blk.lt
 clear hW2 g2 bB2 bE2 hrow G2 h2 hBB bT2 hva f2 hPV FV bTV
 go_loopg [] F (fun g wr => ∃ (acc : List TB) (st : PS) (v : Value), acc.length + g = F + 1 ∧ Hid (bindsF L ex g acc st = RA ∧ measP L st + 1 ≤ g ∧ RowsAt (RX (fun b => b = Tb + 1) BAt) 10 51 B wr v acc ∧ PAt wr pb vT L st ∧ Blk wr (Tb + 1) #[.int .i64 6, .string ⟨#[]⟩, .bool false, .int .u64 0, .slice none 0 0, .slice none 0 0, v, .slice none 0 0] 49 ∧ Fr (fun b => b = pb) V wr ∧ v.ownBlock ≠ some (Tb + 1)))
 case atStart => exact ⟨[A0], s1, _, by simp; omega, Lib.hid ⟨HQ.out.2.1, HQ.out.2.2, HS0.out.1, HS0.out.2.1, HS0.out.2.2.1, HS0.out.2.2.2, fun q => by simp [Value.ownBlock] at q⟩⟩
 case round =>
  obtain ⟨acc, st, v, hg, HS⟩ := hrel
  obtain ⟨p0, p1, p2, p3, pf, pl⟩ := HS.out.2.2.2.1.facts
  obtain ⟨av, cv, rfl⟩ := HS.out.2.2.1.shape
  obtain ⟨f, hf⟩ : ∃ f, gk = f + 1 := ⟨gk - 1, by have := HS.out.2.1; omega⟩
  obtain ⟨cd, hcd⟩ : ∃ cd, decide (st.e = 0 ∧ seesF L [59] st = true) = cd := ⟨_, rfl⟩
  have HCD := Lib.hid hcd
  clear hcd
  go_upto_region 11 with fail
  go_cut [46] (fun sv wx => sv = .bool cd ∧ Fr Nil wr wx)
  case first =>
   by_cases he : st.e = 0
   · have i2 : (st.e : Int) = 0 := by omega
     rw [i2] at p2
     have hcc := HCD.out
     have hd1 : cd = seesF L [59] st := by rw [← hcc]; simp [he]
     have HS1 := Lib.hid (psees_any [59] HS.out.2.2.2.1)
     rw [← hd1] at HS1
     clear hcc hd1 i2
     go_wp2_with fail
     refine HS1.out.mono ?_
     rintro e w6 ⟨rfl, f6⟩
     go_wp2
     go_meet
     exact ⟨by simp, by exact frA⟩
   · have i2 : ¬ (st.e : Int) = 0 := by omega
     have d3 : ((st.e : Int) == 0) = false := by simpa using i2
     have hcc := HCD.out
     rw [decide_eq_false (fun q => he q.1)] at hcc
     subst hcc
     go_wp2
     go_meet
     exact ⟨by simp [d3], by exact frA⟩
  case rest =>
   obtain ⟨rfl, f6⟩ := hcut
   obtain ⟨w6, hw6⟩ : ∃ w6, wc = w6 := ⟨_, rfl⟩
   rw [hw6] at f6 ⊢
   clear hw6 p0 p1 p2 p3 pf pl
   have h6 := HS.out.2.2.2.1.fr f6
   have hR6 := HS.out.2.2.1.fr (lawX lawB _) f6 (fun _ q => q.elim)
   have bE6 := f6.blk HS.out.2.2.2.2.1 (fun q => q)
   have G6 := HS.out.2.2.2.2.2.1.via f6
   have HVT := Lib.hid HS.out.2.2.2.2.2.2
   cases cd with
   | true =>
    obtain ⟨he, hse⟩ := of_decide_eq_true HCD.out
    have hl6 := sees_lt hse
    obtain ⟨p0, p1, p2, p3, pf, pl⟩ := h6.facts
    have j6 : IntKind.i64.wrap ((st.at_ : Int) + 1) = (st.at_ : Int) + 1 := by rw [IntKind.wrap_i64]; omega
    have hst := HS.out.1
    rw [hf] at hst
    unfold bindsF at hst
    rw [if_pos ⟨he, hse⟩] at hst
    obtain ⟨A1, s6, hA1⟩ : ∃ A1 s6, bindF L ex { st with at_ := st.at_ + 1 } = (A1, s6) := ⟨_, _, rfl⟩
    have hT : measP L s6 < measP L st := by
     have h := bind_goes (L := L) hgo { st with at_ := st.at_ + 1 }
     rw [hA1] at h
     exact measP_lt he hl6 h
    rw [hA1] at hst
    have HST := Lib.hid (And.intro hst (And.intro hA1 (show measP L s6 + 1 ≤ f from by have := HS.out.2.1; omega)))
    clear hst hT hA1 he hse
    go_upto_region 13 with fail
    obtain ⟨V2, hV2⟩ : ∃ V2, w6.setCell ⟨pb, 1, none⟩ (.int .i64 ((st.at_ : Int) + 1)) = V2 := ⟨_, rfl⟩
    rw [hV2]
    have fV2 : Fr (fun b => b = pb) w6 V2 := by rw [← hV2]; exact frG
    have bV2 : Blk V2 pb #[vT, .int .i64 ((st.at_ : Int) + 1), .int .i64 (st.e : Int), .int .i64 (st.line : Int)] 76 := by
     rw [← hV2]
     (unfold Blk; simp (disch := first | omega | (simp; done) | (simp; omega)) only [hp_drew, hp_drewN, hp_alloc, hp_other, hp_same, hp_new, upd_cells, Option.map_some, (h6.blk).eq])
     simp
    have GV : Fr (fun b => b = pb) V V2 := G6.comp fV2
    have hPV2 : PAt V2 pb vT L { st with at_ := st.at_ + 1 } := h6.to (t := { st with at_ := st.at_ + 1 }) fV2 bV2 hl6
    have hRV := hR6.fr (lawX lawB _) fV2 (fun b q => by have q' : b = pb := q; omega)
    have bEV := fV2.blk bE6 hneE
    obtain ⟨cl, hcl⟩ := hRV.cells
    have hX1 : Hid (PAt V2 pb vT L { st with at_ := st.at_ + 1 } ∧ Blk V2 (Tb + 1) #[.int .i64 6, .string ⟨#[]⟩, .bool false, .int .u64 0, .slice none 0 0, .slice none 0 0, .slice av acc.length cv, .slice none 0 0] 49 ∧ V2.ownsRow B 51 10 (.slice av acc.length cv) acc.length cl) := ⟨hPV2, bEV, hcl⟩
    have HRV := Lib.hid (And.intro hRV GV)
    have p6 := bEV.cell 6
    simp at p6
    have Elt := bEV.lt
    have hsV := GV.size
    clear hV2 fV2 bV2 hPV2 hRV bEV hcl GV h6 hR6 bE6 G6 p0 p1 p2 p3 pf pl
    go_region_law (first
     | (refine step_push (w := wa) rfl (.tmp 55) (.tmp 59) 24 rfl B 51 i0 (.agg #[.string ⟨#[]⟩, .slice none 0 0, .int .i64 0, .string ⟨#[]⟩, .bool false, .int .u64 0, .slice none 0 0, .slice none 0 0, .slice none 0 0, .slice none 0 0]) 10 176 Tryz.underlying24 hi hz0 hz1 hz2 rfl (by decide) (.slice av acc.length cv) (acc.length) cl (by simp [Act.eval, Act.put]) (owns_frS hX1.out.2.2 HA.out.2.1 (fun q z y => by have y' : q = pb := y; have := (hX1.out.2.2.lt q z).1; omega)) [.string bn, .slice pa pn pc, .int .i64 (k' : Int), .string nm', .bool fl', .int .u64 (bi' : Int), .slice b0 m0 d0, .slice b1 m1 d1, .slice b2 m2 d2, .slice b3 m3 d3] (by simp [Act.eval, Act.put]) rfl (by simp [Value.oneCell']) (by unfold maxLen; omega) (by omega) (by omega) ?_; intro v' w9 hown9 f9 hk9; have bE9 := f9.blk HA.out.2.2.1 (fun z => HVT.out z); have e6 := bE9.cell 6; simp at e6; have ef := bE9.free; have el := bE9.lt; obtain ⟨x9, y9, rfl⟩ := owns_shape hown9; have HO := Lib.hid (And.intro hown9 (And.intro f9 (And.intro hk9 bE9))); clear hown9 f9 hk9 bE9)
     | (go_simp; go_at_call 27; refine (pbind_any (hX1.out.1.fr (by exact frA)) (by omega) hex).mono ?_; rintro e wa ⟨va, rfl, hva, ha, fa⟩; have fa' : Fr (fun b => b = pb) V2 wa := Fr.trans (S := fun b => b = pb) (by exact frG) fa (fun _ _ q => q); obtain ⟨bn, pa, pn, pc, k', nm', fl', bi', b0, m0, d0, b1, m1, d1, b2, m2, d2, b3, m3, d3, rfl, hAA⟩ := bval_form hva; have hAA : BAt (fun b => b < V2.heap.size) wa _ _ := hAA; have bEa := fa'.blk hX1.out.2.1 hneE; have pa6 := bEa.cell 6; simp at pa6; have Elt := bEa.lt; have hsa := fa'.size; have HA := Lib.hid (And.intro ha (And.intro fa' (And.intro bEa hAA))); clear ha fa fa' hva bEa hAA))
    all_goals
     have hAA := HA.out.2.2.2
     have hPA := HA.out.1
     rw [HST.out.2.1] at hAA hPA
     have E := row_end2 (Te := Tb + 1) lawB HP.out HT.out.1 hB (by omega) (by omega) HRV.out.2 HRV.out.1 HVT.out hPA HA.out.2.1 hAA hX1.out.2.2 HO.out.1 HO.out.2.1 HO.out.2.2.1 (wf := w9.setCell ⟨Tb + 1, 6, none⟩ (.slice x9 (acc.length + 1) y9)) (by exact frG)
     have bEF : Blk (w9.setCell ⟨Tb + 1, 6, none⟩ (.slice x9 (acc.length + 1) y9)) (Tb + 1) #[.int .i64 6, .string ⟨#[]⟩, .bool false, .int .u64 0, .slice none 0 0, .slice none 0 0, .slice x9 (acc.length + 1) y9, .slice none 0 0] 49 := by
      (unfold Blk; simp (disch := first | omega | (simp; done) | (simp; omega)) only [hp_drew, hp_drewN, hp_alloc, hp_other, hp_same, hp_new, upd_cells, Option.map_some, (HO.out.2.2.2).eq])
      simp
     go_wp2_with fail
     go_roundg f
     case rel => exact ⟨acc ++ [A1], s6, .slice x9 (acc.length + 1) y9, by simp; omega, Lib.hid ⟨HST.out.1, HST.out.2.2, E.1, E.2.1, bEF, E.2.2.1, E.2.2.2⟩⟩
     case measure => omega
   | false =>
    have hno := of_decide_eq_false HCD.out
    have hst := HS.out.1
    rw [hf] at hst
    unfold bindsF at hst
    rw [if_neg hno] at hst
    subst hst
    have F6 : Fr (fun b => b = pb) w w6 := HT.out.1.comp G6
    have bT6 := G6.blk HT.out.2 hne
    have hs6 := G6.size
    have hE6s := bE6.lt
    clear hno G6 HS
    go_wp2_with fail
    refine (pneed_any [105, 110] h6).mono ?_
    rintro e w7 ⟨rfl, h7, f7⟩
    have F7 := F6.comp f7
    have bT7 := f7.blk bT6 hne
    have bE7 := f7.blk bE6 hneE
    have hR7 := hR6.fr (lawX lawB _) f7 (fun b q => by have q' : b = pb := q; omega)
    have hs7 := f7.size
    clear f7 h6 hR6 bE6 bT6 F6
    go_wp2_with fail
    refine (hex _ _ h7).mono ?_
    rintro e w8 ⟨ve, rfl, he2, h8, f8⟩
    obtain ⟨cs, rfl, hE⟩ := he2
    obtain ⟨k, nm, fl, bi, a0, n0, c0, a1, n1, c1, a2, n2, c2, a3, n3, c3, rfl⟩ := hE.form
    have F8 := F7.comp f8
    have bT8 := f8.blk bT7 hne
    have bE8 := f8.blk bE7 hneE
    have hR8 := hR7.fr (lawX lawB _) f8 (fun b q => by have q' : b = pb := q; omega)
    have hs8 := f8.size
    clear f8 h7 hR7 bE7 bT7 F7
    unfold eC
    obtain ⟨Tk, hTk⟩ : ∃ Tk, w8.heap.size = Tk := ⟨_, rfl⟩
    have Ec := bE8.cell
    have Ef := bE8.free
    have El := bE8.lt
    have ElK : Tb + 1 < Tk := by omega
    go_upto_region 16 with fail
    obtain ⟨W8, hW8⟩ : ∃ W8, (w8.setCell ⟨Tb + 1, 5, none⟩ (.slice (some ⟨Tk, 0, none⟩) 1 1)).alloc (.cells #[.int .i64 (k : Int), .string nm, .bool fl, .int .u64 (bi : Int), .slice a0 n0 c0, .slice a1 n1 c1, .slice a2 n2 c2, .slice a3 n3 c3] 49) = W8 := ⟨_, rfl⟩
    rw [hW8]
    have g8 : Fr (fun b => b = Tb + 1) w8 W8 := by rw [← hW8]; exact frG
    have bK8 : Blk W8 Tk (eC k nm fl bi a0 n0 c0 a1 n1 c1 a2 n2 c2 a3 n3 c3).toArray 49 := by
     rw [← hW8]
     have h := Blk.new (w8.setCell ⟨Tb + 1, 5, none⟩ (.slice (some ⟨Tk, 0, none⟩) 1 1)) (eC k nm fl bi a0 n0 c0 a1 n1 c1 a2 n2 c2 a3 n3 c3).toArray 49
     rw [show (w8.setCell ⟨Tb + 1, 5, none⟩ (.slice (some ⟨Tk, 0, none⟩) 1 1)).heap.size = Tk by simp [World.setCell, hTk]] at h
     exact h
    have bE9 : Blk W8 (Tb + 1) #[.int .i64 6, .string ⟨#[]⟩, .bool false, .int .u64 0, .slice none 0 0, .slice (some ⟨Tk, 0, none⟩) 1 1, .slice av acc.length cv, .slice none 0 0] 49 := by
     rw [← hW8]
     (unfold Blk; simp (disch := first | omega | (simp; done) | (simp; omega)) only [hp_drew, hp_drewN, hp_alloc, hp_other, hp_same, hp_new, upd_cells, Option.map_some, (bE8).eq])
     simp
    have bT9 := g8.blk bT8 (fun q => by have q' : T = Tb + 1 := q; omega)
    have hE9 := hE.fr g8 (fun b q => by have q' : b = Tb + 1 := q; omega)
    have hR9 := hR8.frK lawB g8 (fun b q => .inr q) (fun z q e => HVT.out (by have e' : z = Tb + 1 := e; rw [← e']; exact q))
    have F9 : Fr (fun b => b = pb) w W8 := F8.trans g8 (fun b hb q => by have q' : b = Tb + 1 := q; omega)
    have h9 := HP.out.keep F9 h8 g8 (fun q => hneE q.symm)
    obtain ⟨bc, hbc, hbc2⟩ := hR9.row (lawX lawB _)
    clear hW8 g8 Ec Ef El bE8 bT8 hE hR8 hR9 h8 F8
    have Ec := bE9.cell
    have Ef := bE9.free
    have El := bE9.lt
    have Tc := bT9.cell
    have Tf := bT9.free
    have Tl := bT9.lt
    have fin : Hid (∀ wf, Fr (fun b => b = T) W8 wf → ∃ v', Ending.returned (.agg #[.int .i64 6, .string ⟨#[]⟩, .bool false, .int .u64 0, .slice none 0 0, .slice (some ⟨Tk, 0, none⟩) 1 1, .slice av acc.length cv, .slice none 0 0]) = .returned v' ∧ EVal (fun b => b < T) wf v' (.mk 6 [] false 0 [] [(ex (needF L [105, 110] st)).1] acc []) ∧ PAt wf pb vT L (ex (needF L [105, 110] st)).2 ∧ Fr (fun b => b = pb) w wf) := fun wf g => by
     have FF : Fr (fun b => b = pb) w wf := F9.trans g (fun b hb q => by have q' : b = T := q; omega)
     have hk := g.blk bK8 (fun q => by have q' : Tk = T := q; omega)
     refine ⟨_, rfl, ⟨_, rfl, EAt.rows (kids := [(ex (needF L [105, 110] st)).1]) (alts := []) (binds := acc) (params := []) (kc := fun _ => eC k nm fl bi a0 n0 c0 a1 n1 c1 a2 n2 c2 a3 n3 c3) (ac := fun _ => []) (bc := bc) 6 [] RowC.nil (RowC.one hk rfl (by omega)) (fun i hi => ?_) ((hbc.fr g (fun b q => by have q' : b = T := q; omega)).mono (by decide) (fun b _ q => by omega)) (fun i h => lawB.mono (lawB.fr (hbc2 i h) g (fun b q => .inl (by have q' : b = T := q; omega))) (fun b _ q => .inl (by omega))) .nil (fun i h => absurd h (Nat.not_lt_zero i))⟩, HP.out.keep FF h9 g (fun q => hne q.symm), FF⟩
     have e : i = 0 := by simp at hi; exact hi
     subst e
     exact (hE9.fr g (fun b q => by have q' : b = T := q; omega)).mono (fun b _ q => by omega)
    clear bE9 bT9 bK8 hE9 hbc hbc2 h9 F9
    go_wp2
    (try simp only [Exit.inBlock, Exit.then])
    refine bodyPost_ret (v := .agg #[.int .i64 6, .string ⟨#[]⟩, .bool false, .int .u64 0, .slice none 0 0, .slice (some ⟨Tk, 0, none⟩) 1 1, .slice av acc.length cv, .slice none 0 0]) (by simp [results, Tryz.results61, go_sem, *]) rfl ?_
    exact fin.out _ (by exact frG)
end
end Go.Proofs.YtlnmicddobgppaaGreatDoor
