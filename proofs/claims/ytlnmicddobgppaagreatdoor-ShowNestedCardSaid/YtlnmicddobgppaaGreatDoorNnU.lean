/-
  Rows that grow in a block of the program's (layer 8). No conditions. The program's let (layer 8), given what expr does. No conditions. The program's case (layer 8), given what expr does. No conditions.
-/
import Derived.Test.YtlnmicddobgppaaGreatDoorNnS
import Derived.Test.YtlnmicddobgppaaGreatDoorNnJ
import Derived.Test.YtlnmicddobgppaaGreatDoorNnT
import Derived.Test.YtlnmicddobgppaaGreatDoorNnA
namespace Go.Proofs.YtlnmicddobgppaaGreatDoor
set_option maxRecDepth 100000
set_option maxHeartbeats 4000000
set_option linter.unusedSimpArgs false
set_option linter.unusedVariables false
open Go.RowKit
theorem binds_bad {L : List TokV} {ex : PS → TE × PS} {n : Nat} {acc : List TB} {s : PS} (h : s.e ≠ 0) : bindsF L ex n acc s = (acc, s) := by
 cases n with
 | zero => rfl
 | succ n => unfold bindsF; rw [if_neg (fun q => h q.1)]
theorem alts_bad {L : List TokV} {ex : PS → TE × PS} {n : Nat} {acc : List TA} {s : PS} (h : s.e ≠ 0) : altsF L ex n acc s = (acc, s) := by
 cases n with
 | zero => rfl
 | succ n => unfold altsF; rw [if_neg (fun q => h q.1)]
theorem qrow_end {α : Type} {R : (Nat → Prop) → World → List Value → α → Prop} {size : Nat} {t : TypeId} {w wz w0 wa w9 wf : World} {pb Te B : Nat} {vT v v' : Value} {L : List TokV} {a0 a2 : Nat} {dp0 dp : Int} {acc : List α} {c cl : List Value} {a : α} (law : ElemLaw R size)
 (h0 : QAt w pb vT L a0 dp0) (Fw : Fr (fun b => b = pb) w wz) (hTe : w.heap.size ≤ Te) (hB : wz.heap.size = B) (hT0 : Te < w0.heap.size) (F0 : Fr (fun b => b = pb ∨ b = Te) wz w0) (HR : RowsAt (RX (fun b => b = Te) R) size t B w0 v acc) (hvT : v.ownBlock ≠ some Te) (ha : QAt wa pb vT L a2 dp) (fa : Fr (fun b => b = pb) w0 wa)
 (he : R (fun b => b < w0.heap.size) wa c a) (hcl : w0.ownsRow B t size v acc.length cl) (ho : w9.ownsRow B t size v' (acc.length + 1) (cl ++ c)) (f9 : Fr (fun k => v.ownBlock = some k) wa w9) (hk : ∀ k, v'.ownBlock = some k → v.ownBlock = some k ∨ wa.heap.size ≤ k) (gf : Fr (fun b => b = Te) w9 wf) :
 RowsAt (RX (fun b => b = Te) R) size t B wf v' (acc ++ [a]) ∧ QAt wf pb vT L a2 dp ∧ Fr (fun b => b = pb ∨ b = Te) wz wf ∧ v'.ownBlock ≠ some Te := by
 have hpb := h0.blk.lt
 have hown := HR.own
 have hsw := Fw.size
 have hs0 := F0.size
 have hsa := fa.size
 have hRa := HR.fr (lawX law _) fa (fun b q => by have q' : b = pb := q; omega)
 have hcla := owns_frS hcl fa (fun k q e => by have := (hown k q).1; have e' : k = pb := e; omega)
 have hv9 : v'.ownBlock ≠ some Te := fun q => by
  rcases hk Te q with z | z
  · exact hvT z
  · omega
 have hR9 := (hRa.push (lawX law _) (law.mono he (fun b _ q => by
  rcases q with (q | q) | q
  · omega
  · exact (hown b q).2
  · have q' : b = Te := q; omega)) hcla ho f9 hk).frK law gf (fun b q => .inr q) (fun k q e => hv9 (by have e' : k = Te := e; rw [← e']; exact q))
 have G : Fr (fun b => b = pb ∨ b = Te) wz wf := ((F0.comp (fa.mono (fun _ _ q => .inl q))).trans f9 (fun k hk2 q => by have := (hown k q).1; omega)).trans gf (fun _ _ q => .inr q)
 have FF : Fr (fun b => b = pb) w wf := Fw.trans G (fun b hb q => by rcases q with q | q; exact q; omega)
 refine ⟨hR9, ⟨gf.blk (f9.blk ha.blk (fun q => by have := (hown pb q).1; omega)) (fun q => by have q' : pb = Te := q; omega), h0.toks.fr FF (fun _ q => q), ha.le, ha.sz⟩, G, hv9⟩
section
variable {w : World} {pb : Nat} {vT : Value} {L : List TokV} {s : PS} {dp : Int} {d : Nat}
theorem qlet_any (hex : QReads pb vT L d dp) (hs : s.e = 0) (hlt : s.at_ < L.length) (h : QAt w pb vT L (s.at_ + 1) dp) :
 Calls Tryz.prog 104 #[.pointer (some ⟨pb, 0, none⟩)] w (QEnds pb vT L dp w (fun w' v => EVal (fun b => b < w.heap.size) w' v (letF L (exprF L d) s).1) (letF L (exprF L d) s).2) := by
 obtain ⟨i0, hi, hz0, hz1, hz2⟩ := info_parts infoB
 obtain ⟨T, hT⟩ : ∃ T, w.heap.size = T := ⟨_, rfl⟩
 obtain ⟨Wz, hW1⟩ : ∃ W1, w.alloc (.cells #[.int .i64 0, .string ⟨#[]⟩, .bool false, .int .u64 0, .slice none 0 0, .slice none 0 0, .slice none 0 0, .slice none 0 0] 49) = W1 := ⟨_, rfl⟩
 have f1 : Fr Nil w Wz := by rw [← hW1]; exact frA
 have bT1 : Blk Wz T #[.int .i64 0, .string ⟨#[]⟩, .bool false, .int .u64 0, .slice none 0 0, .slice none 0 0, .slice none 0 0, .slice none 0 0] 49 := by rw [← hW1, ← hT]; exact Blk.new _ _ _
 have hs1 : Wz.heap.size = T + 1 := by rw [← hW1, ← hT]; simp
 obtain ⟨B, hB⟩ : ∃ B, Wz.heap.size = B := ⟨_, rfl⟩
 have hBT : T + 1 = B := by omega
 have hpT : pb < T := by rw [← hT]; exact h.blk.lt
 have hwT : w.heap.size ≤ T := Nat.le_of_eq hT
 have hsz := h.sz
 obtain ⟨⟨A0, s1⟩, hA⟩ : ∃ r, bindF L (exprF L d) { s with at_ := s.at_ + 1 } = r := ⟨_, rfl⟩
 have HB0 := Lib.hid (qbind_any (s := { s with at_ := s.at_ + 1 }) hex hs (h.fr f1))
 rw [hA] at HB0
 simp only at HB0
 obtain ⟨RA, hRA⟩ : ∃ RA, bindsF L (exprF L d) (fuelP L) [A0] s1 = RA := ⟨_, rfl⟩
 obtain ⟨R, hR⟩ : ∃ R, letF L (exprF L d) s = R := ⟨_, rfl⟩
 have eR : R = (.mk 6 [] false 0 [] [(exprF L d (needF L [105, 110] RA.2)).1] RA.1 [], (exprF L d (needF L [105, 110] RA.2)).2) := by
  rw [← hR]
  unfold letF
  rw [hA]
  simp only [hRA]
 rw [hR]
 obtain ⟨F, hF⟩ : ∃ F, fuelP L = F := ⟨_, rfl⟩
 have hm := measP_le L s1
 rw [hF] at hRA hm
 have hF2 : F ≤ 1000002 := by unfold fuelP at hF; omega
 have HQ := Lib.hid (And.intro hRA hm)
 have HRQ := Lib.hid eR
 have HX := Lib.hid hex
 have H1 := Lib.hid (And.intro f1 (And.intro bT1 (And.intro h hs)))
 have HT := Lib.hid (Fr.of_nil (S := fun b => b = pb) f1)
 have HW1 := Lib.hid (And.intro hT hW1)
 clear hA hRA hR eR hm hF hex f1 bT1 h hs hT hW1 hs1
 go_enter Tryz.func104, Tryz.ntmps104
 go_upto_region 1 with fail
 try rw [HW1.out.1]
 try rw [HW1.out.2]
 clear HW1
 go_wp2_with fail
 refine HB0.out.mono ?_
 rintro e w2 (⟨hs10, va, rfl, hva, h2, f2⟩ | hbr)
 · obtain ⟨bn, pa, pn, pc, k', nm', fl', bi', b0, m0, d0, b1, m1, d1, b2, m2, d2, b3, m3, d3, rfl, hBB⟩ := bval_form hva
   have hs2 := f2.size
   obtain ⟨Tb, hTb⟩ : ∃ Tb, w2.heap.size = Tb := ⟨_, rfl⟩
   obtain ⟨W2, hW2⟩ : ∃ W2, (w2.alloc (.cells #[.string bn, .slice pa pn pc, .int .i64 (k' : Int), .string nm', .bool fl', .int .u64 (bi' : Int), .slice b0 m0 d0, .slice b1 m1 d1, .slice b2 m2 d2, .slice b3 m3 d3] 51)).alloc (.cells #[.int .i64 6, .string ⟨#[]⟩, .bool false, .int .u64 0, .slice none 0 0, .slice none 0 0, .slice (some ⟨Tb, 0, none⟩) 1 1, .slice none 0 0] 49) = W2 := ⟨_, rfl⟩
   have g2 : Fr Nil w2 W2 := by rw [← hW2]; exact frA
   have bB2 : Blk W2 Tb [.string bn, .slice pa pn pc, .int .i64 (k' : Int), .string nm', .bool fl', .int .u64 (bi' : Int), .slice b0 m0 d0, .slice b1 m1 d1, .slice b2 m2 d2, .slice b3 m3 d3].toArray 51 := by
    rw [← hW2]
    have h := Blk.new w2 [.string bn, .slice pa pn pc, .int .i64 (k' : Int), .string nm', .bool fl', .int .u64 (bi' : Int), .slice b0 m0 d0, .slice b1 m1 d1, .slice b2 m2 d2, .slice b3 m3 d3].toArray 51
    rw [hTb] at h
    exact ((Fr.refl Nil _).alloc _).blk h (fun q => q)
   have bE2 : Blk W2 (Tb + 1) #[.int .i64 6, .string ⟨#[]⟩, .bool false, .int .u64 0, .slice none 0 0, .slice none 0 0, .slice (some ⟨Tb, 0, none⟩) 1 1, .slice none 0 0] 49 := by
    rw [← hW2]
    have h := Blk.new (w2.alloc (.cells #[.string bn, .slice pa pn pc, .int .i64 (k' : Int), .string nm', .bool fl', .int .u64 (bi' : Int), .slice b0 m0 d0, .slice b1 m1 d1, .slice b2 m2 d2, .slice b3 m3 d3] 51)) #[.int .i64 6, .string ⟨#[]⟩, .bool false, .int .u64 0, .slice none 0 0, .slice none 0 0, .slice (some ⟨Tb, 0, none⟩) 1 1, .slice none 0 0] 49
    rw [show (w2.alloc (.cells #[.string bn, .slice pa pn pc, .int .i64 (k' : Int), .string nm', .bool fl', .int .u64 (bi' : Int), .slice b0 m0 d0, .slice b1 m1 d1, .slice b2 m2 d2, .slice b3 m3 d3] 51)).heap.size = Tb + 1 by simp [hTb]] at h
    exact h
   have hBTb : B ≤ Tb := by omega
   have hneE : ¬ (Tb + 1 = pb) := by omega
   have hrow : RowsAt (RX (fun b => b = Tb + 1) BAt) 10 51 B W2 (.slice (some ⟨Tb, 0, none⟩) 1 1) [A0] :=
    RowsAt.one bB2 rfl (by omega) (lawB.mono (lawB.fr (lawB.mono (Y := fun b => b < B ∨ Tb ≤ b) hBB (fun b hb q => by rcases q with q | q <;> omega)) g2 (fun _ q => q.elim)) (fun b hb q => by
     rcases q with (q | q) | q
     · exact .inl q
     · cases q; exact .inr (Nat.le_refl _)
     · exact .inr (by omega)))
   have G2 : Fr (fun b => b = pb ∨ b = Tb + 1) Wz W2 := (f2.via g2).mono (fun _ _ q => .inl q)
   have HS0 := Lib.hid (And.intro hrow (And.intro (h2.fr g2) (And.intro bE2 (And.intro G2 (show Value.ownBlock (.slice (some ⟨Tb, 0, none⟩) 1 1) ≠ some (Tb + 1) from fun q => by simp [Value.ownBlock] at q)))))
   have hTew : w.heap.size ≤ Tb + 1 := by omega
   have HW2 := Lib.hid (And.intro hTb hW2)
   clear hW2 hTb g2 bB2 bE2 hrow G2 h2 hBB hva f2 HB0
   go_wp2_with fail
   try rw [HW2.out.1]
   try rw [HW2.out.2]
   clear HW2
   go_loopg [] F (fun g wr => ∃ (acc : List TB) (st : PS) (v : Value), acc.length + g = F + 1 ∧ Hid (bindsF L (exprF L d) g acc st = RA ∧ measP L st + 1 ≤ g ∧ st.e = 0 ∧ RowsAt (RX (fun b => b = (Tb + 1)) BAt) 10 51 B wr v acc ∧ QAt wr pb vT L st.at_ dp ∧ Blk wr (Tb + 1) #[.int .i64 6, .string ⟨#[]⟩, .bool false, .int .u64 0, .slice none 0 0, .slice none 0 0, v, .slice none 0 0] 49 ∧ Fr (fun b => b = pb ∨ b = (Tb + 1)) Wz wr ∧ v.ownBlock ≠ some (Tb + 1)))
   case atStart => exact ⟨[A0], s1, _, by simp; omega, Lib.hid ⟨HQ.out.1, HQ.out.2, hs10, HS0.out.1, HS0.out.2.1, HS0.out.2.2.1, HS0.out.2.2.2.1, HS0.out.2.2.2.2⟩⟩
   case round =>
    obtain ⟨acc, st, v, hg, HS⟩ := hrel
    obtain ⟨Vr, hVr⟩ : ∃ V, V = wr := ⟨_, rfl⟩
    subst hVr
    obtain ⟨av, cv, rfl⟩ := HS.out.2.2.2.1.shape
    obtain ⟨f, rfl⟩ : ∃ f, gk = f + 1 := ⟨gk - 1, by have := HS.out.2.1; omega⟩
    have he := HS.out.2.2.1
    have hst := HS.out.1
    have hme := HS.out.2.1
    have HI := Lib.hid (fun w' (f : Fr Nil Vr w') => qis_any [59] he (HS.out.2.2.2.2.1.fr f))
    have HVT := Lib.hid HS.out.2.2.2.2.2.2.2
    cases hse : seesF L [59] st with
    | true =>
     simp only [hse, if_true] at HI
     obtain ⟨⟨A1, s6⟩, hA1⟩ : ∃ r, bindF L (exprF L d) { st with at_ := st.at_ + 1 } = r := ⟨_, rfl⟩
     unfold bindsF at hst
     rw [if_pos ⟨he, hse⟩, hA1] at hst
     have hmf : measP L s6 + 1 ≤ f := by
      have h := bind_goes (L := L) (expr_goes L d) { st with at_ := st.at_ + 1 }
      rw [hA1] at h
      have h2 : measP L s6 < measP L st := measP_lt he (sees_lt hse) h
      omega
     have hcall : ∀ w', QAt w' pb vT L (st.at_ + 1) dp → Calls Tryz.prog 40 #[.pointer (some ⟨pb, 0, none⟩)] w' (QEnds pb vT L dp w' (fun w'' v => BVal (fun b => b < w'.heap.size) w'' v A1) s6) := fun w' h' => by
      have h := qbind_any (s := { st with at_ := st.at_ + 1 }) HX.out he h'
      rw [hA1] at h
      exact h
     have HST := Lib.hid (And.intro hst hmf)
     have HC := Lib.hid hcall
     clear hst hmf hA1 hcall he hse hme
     go_wp2_with fail
     refine (HI.out _ (by exact frA)).mono ?_
     rintro e w6 ⟨rfl, h6, f6⟩
     have F6 : Fr (fun b => b = pb) Vr w6 := Fr.comp (S := fun b => b = pb) (by exact frG) f6
     have hR6 := HS.out.2.2.2.1.fr (lawX lawB _) F6 (fun b q => by have q' : b = pb := q; omega)
     have bE6 := F6.blk HS.out.2.2.2.2.2.1 hneE
     have G6 := HS.out.2.2.2.2.2.2.1.comp (F6.mono (fun _ _ q => .inl q))
     obtain ⟨cl, hcl⟩ := hR6.cells
     have hX1 : Hid (QAt w6 pb vT L (st.at_ + 1) dp ∧ Blk w6 (Tb + 1) #[.int .i64 6, .string ⟨#[]⟩, .bool false, .int .u64 0, .slice none 0 0, .slice none 0 0, .slice av acc.length cv, .slice none 0 0] 49 ∧ w6.ownsRow B 51 10 (.slice av acc.length cv) acc.length cl) := ⟨h6, bE6, hcl⟩
     have HRV := Lib.hid (And.intro hR6 G6)
     have p6 := bE6.cell 6
     simp at p6
     have Elt := bE6.lt
     have hsV := G6.size
     clear f6 F6 h6 hR6 bE6 G6 hcl
     go_upto_region 3 with fail
     by_cases h60 : s6.e = 0
     · have hok : ∀ w', Fr Nil w6 w' → Calls Tryz.prog 40 #[.pointer (some ⟨pb, 0, none⟩)] w' fun e w'' => ∃ (bn : ByteArray) (pa : Option Addr) (pn pc k' : Nat) (nm' : ByteArray) (fl' : Bool) (bi' : Nat) (b0 : Option Addr) (m0 d0 : Nat) (b1 : Option Addr) (m1 d1 : Nat) (b2 : Option Addr) (m2 d2 : Nat) (b3 : Option Addr) (m3 d3 : Nat), e = .returned (.agg #[.string bn, .slice pa pn pc, .int .i64 (k' : Int), .string nm', .bool fl', .int .u64 (bi' : Int), .slice b0 m0 d0, .slice b1 m1 d1, .slice b2 m2 d2, .slice b3 m3 d3]) ∧ BAt (fun b => b < w6.heap.size) w'' [.string bn, .slice pa pn pc, .int .i64 (k' : Int), .string nm', .bool fl', .int .u64 (bi' : Int), .slice b0 m0 d0, .slice b1 m1 d1, .slice b2 m2 d2, .slice b3 m3 d3] A1 ∧ QAt w'' pb vT L s6.at_ dp ∧ Fr (fun b => b = pb) w6 w'' := fun w' f => (HC.out w' (hX1.out.1.fr f)).mono (fun e w'' q => by
        rcases q with ⟨_, v, rfl, hv, hq, f2⟩ | q
        · obtain ⟨bn, pa, pn, pc, k', nm', fl', bi', b0, m0, d0, b1, m1, d1, b2, m2, d2, b3, m3, d3, rfl, hAA⟩ := bval_form hv
          have z1 := f.size
          exact ⟨bn, pa, pn, pc, k', nm', fl', bi', b0, m0, d0, b1, m1, d1, b2, m2, d2, b3, m3, d3, rfl, lawB.mono hAA (fun b _ q => by have q' : b < w6.heap.size := q; show b < w'.heap.size; omega), hq, (Fr.of_nil f).comp f2⟩
        · exact absurd h60 q.1)
       have HOk := Lib.hid hok
       clear hok
       go_region_law (first
        | (refine step_push (w := wa) rfl (.tmp 11) (.tmp 14) 24 rfl B 51 i0 (.agg #[.string ⟨#[]⟩, .slice none 0 0, .int .i64 0, .string ⟨#[]⟩, .bool false, .int .u64 0, .slice none 0 0, .slice none 0 0, .slice none 0 0, .slice none 0 0]) 10 176 Tryz.underlying24 hi hz0 hz1 hz2 rfl (by decide) (.slice av acc.length cv) acc.length cl (by simp [Act.eval, Act.put]) (owns_frS hX1.out.2.2 HA.out.2.1 (fun q z y => by have y' : q = pb := y; have := (hX1.out.2.2.lt q z).1; omega)) [.string bn, .slice pa pn pc, .int .i64 (k' : Int), .string nm', .bool fl', .int .u64 (bi' : Int), .slice b0 m0 d0, .slice b1 m1 d1, .slice b2 m2 d2, .slice b3 m3 d3] (by simp [Act.eval, Act.put]) rfl (by simp [Value.oneCell']) (by unfold maxLen; omega) (by omega) (by omega) ?_; intro v' w9 hown9 f9 hk9; have bE9 := f9.blk HA.out.2.2.1 (fun z => HVT.out z); have e6 := bE9.cell 6; simp at e6; have ef := bE9.free; have el := bE9.lt; obtain ⟨x9, y9, rfl⟩ := owns_shape hown9; have HO := Lib.hid (And.intro hown9 (And.intro f9 (And.intro hk9 bE9))); clear hown9 f9 hk9 bE9)
        | (go_simp; go_at_call 40; refine (HOk.out _ (by exact frA)).mono ?_; rintro e wa ⟨bn, pa, pn, pc, k', nm', fl', bi', b0, m0, d0, b1, m1, d1, b2, m2, d2, b3, m3, d3, rfl, hAA, ha, fa'⟩; have bEa := fa'.blk hX1.out.2.1 hneE; have pa6 := bEa.cell 6; simp at pa6; have Elt := bEa.lt; have hsa := fa'.size; have HA := Lib.hid (And.intro ha (And.intro fa' (And.intro bEa hAA))); clear ha fa' bEa hAA))
       all_goals
        have E := qrow_end (Te := (Tb + 1)) lawB H1.out.2.2.1 HT.out hTew hB (by omega) HRV.out.2 HRV.out.1 HVT.out HA.out.1 HA.out.2.1 HA.out.2.2.2 hX1.out.2.2 HO.out.1 HO.out.2.1 HO.out.2.2.1 (wf := w9.setCell ⟨(Tb + 1), 6, none⟩ (.slice x9 (acc.length + 1) y9)) (by exact frG)
        have bEF : Blk (w9.setCell ⟨(Tb + 1), 6, none⟩ (.slice x9 (acc.length + 1) y9)) (Tb + 1) #[.int .i64 6, .string ⟨#[]⟩, .bool false, .int .u64 0, .slice none 0 0, .slice none 0 0, .slice x9 (acc.length + 1) y9, .slice none 0 0] 49 := by
         (unfold Blk; simp (disch := first | omega | (simp; done) | (simp; omega)) only [hp_drew, hp_drewN, hp_alloc, hp_other, hp_same, hp_new, upd_cells, Option.map_some, (HO.out.2.2.2).eq])
         simp
        go_wp2_with fail
        go_roundg f
        case rel => exact ⟨acc ++ [A1], s6, .slice x9 (acc.length + 1) y9, by simp; omega, Lib.hid ⟨HST.out.1, HST.out.2, h60, E.1, E.2.1, bEF, E.2.2.1, E.2.2.2⟩⟩
        case measure => omega
     · refine wp_region_held_drew (S := fun w' => w'.cell? ⟨(Tb + 1), 6, none⟩ = some (.slice av acc.length cv)) (by kernel_rfl) p6 (fun hHeld => ?_)
       obtain ⟨W7, hW7⟩ : ∃ W, w6.drew = W := ⟨_, rfl⟩
       have f7 : Fr Nil w6 W7 := by rw [← hW7]; exact frA
       rw [hW7] at hHeld ⊢
       clear hW7
       refine held_take (i := 0) (v := ?_) rfl (by kernel_rfl) (by kernel_rfl) (by kernel_rfl) (fun _ _ _ h => h) (by rfl) (by assumption) ?_ ?_
       rotate_left
       · (intro w hSw; (try dsimp only at hSw); go_simp; try with_reducible rfl)
       try simp only [Act.put, List.setIfInBounds_toArray, List.set_cons_zero, List.set_cons_succ]
       refine held_take (i := 1) (v := ?_) rfl (by kernel_rfl) (by kernel_rfl) (by kernel_rfl) (fun _ _ _ h => h) (by rfl) (by assumption) ?_ ?_
       rotate_left
       · (intro w hSw; (try dsimp only at hSw); go_simp; try with_reducible rfl)
       try simp only [Act.put, List.setIfInBounds_toArray, List.set_cons_zero, List.set_cons_succ]
       refine held_take (i := 2) (v := ?_) rfl (by kernel_rfl) (by kernel_rfl) (by kernel_rfl) (fun _ _ _ h => h) (by rfl) (by assumption) ?_ ?_
       rotate_left
       · (intro w hSw; (try dsimp only at hSw); go_simp; try with_reducible rfl)
       try simp only [Act.put, List.setIfInBounds_toArray, List.set_cons_zero, List.set_cons_succ]
       refine held_one (i := 3) rfl (by kernel_rfl) (fun Kc hKc => ?_)
       go_simp
       refine (HC.out _ (hX1.out.1.fr f7)).mono ?_
       rintro r w8 (⟨q, _⟩ | hbr)
       · exact absurd q h60
       · have hb2 := hbr.back ((HT.out.trans HRV.out.2 (fun b hb q => by rcases q with q | q; exact q; omega)).via f7)
         obtain ⟨hne, rfl, _⟩ := hbr
         refine ⟨rfl, .inr ?_⟩
         have e2 : RA = (acc ++ [A1], s6) := by rw [← HST.out.1, binds_bad hne]
         have e3 : R.2 = s6 := by rw [HRQ.out, e2]; simp only; rw [need_stop hne, expr_stop hne]
         rw [e3]
         exact hb2
    | false =>
     simp only [hse, Bool.false_eq_true, if_false] at HI
     unfold bindsF at hst
     rw [if_neg (fun q => by rw [hse] at q; exact absurd q.2 (by decide))] at hst
     have eR := HRQ.out
     rw [← hst] at eR
     simp only at eR
     obtain ⟨s7, hs7⟩ : ∃ s7, needF L [105, 110] st = s7 := ⟨_, rfl⟩
     have hwn : ∀ w', QAt w' pb vT L st.at_ dp → Calls Tryz.prog 41 #[.pointer (some ⟨pb, 0, none⟩), .string ⟨#[105, 110]⟩] w' (QEnds pb vT L dp w' (fun _ v => v = .tuple #[]) s7) := fun w' h' => by
      rw [← hs7]
      exact qwant_any [105, 110] he h'
     rw [hs7] at eR
     obtain ⟨⟨E, s8⟩, hr8⟩ : ∃ r, exprF L d s7 = r := ⟨_, rfl⟩
     have hstop : s7.e ≠ 0 → s8 = s7 := fun q => by
      have h := expr_stop (L := L) (d := d) q
      rw [hr8] at h
      injection h
     have hexs : ∀ w', s7.e = 0 → QAt w' pb vT L s7.at_ dp → Calls Tryz.prog 76 #[.pointer (some ⟨pb, 0, none⟩)] w' (QEnds pb vT L dp w' (fun w'' v => EVal (fun b => b < w'.heap.size) w'' v E) s8) := fun w' q h' => by
      have h := HX.out w' s7 q h'
      rw [hr8] at h
      exact h
     rw [hr8] at eR
     have HRE := Lib.hid (And.intro eR hstop)
     have HWn := Lib.hid hwn
     have HEx := Lib.hid hexs
     clear hst hs7 hwn eR hr8 hexs hstop he hse hme
     go_wp2_with fail
     refine (HI.out _ (by exact frA)).mono ?_
     rintro e w6 ⟨rfl, h6, f6⟩
     have F6 : Fr (fun b => b = pb) Vr w6 := Fr.comp (S := fun b => b = pb) (by exact frG) f6
     have H6 := Lib.hid (And.intro h6 (And.intro (HS.out.2.2.2.2.2.1) (And.intro HS.out.2.2.2.1 (And.intro (HT.out.trans HS.out.2.2.2.2.2.2.1 (fun b hb q => by rcases q with q | q; exact q; omega)) HS.out.2.2.2.2.2.2.1))))
     have HF6 := Lib.hid F6
     clear h6 f6 F6 HS
     go_wp2_with fail
     refine (HWn.out _ H6.out.1).mono ?_
     rintro e w7 (⟨hs70, v7, rfl, rfl, h7, f7⟩ | hbr)
     · have F7 := HF6.out.comp f7
       have H7 := Lib.hid (And.intro h7 F7)
       clear h7 f7 F7
       go_wp2_with fail
       refine (HEx.out _ hs70 H7.out.1).mono ?_
       rintro e w8 (⟨hs80, v8, rfl, ⟨cs, rfl, hE⟩, h8, f8⟩ | hbr)
       · obtain ⟨k, nm, fl, bi, a0, n0, c0, a1, n1, c1, a2, n2, c2, a3, n3, c3, rfl⟩ := hE.form
         unfold eC
         have F8 := H7.out.2.comp f8
         have Fw8 := H6.out.2.2.2.1.comp F8
         have bE8 := F8.blk H6.out.2.1 hneE
         have hR8 := H6.out.2.2.1.fr (lawX lawB _) F8 (fun b q => by have q' : b = pb := q; omega)
         have bT8 := F8.blk (H6.out.2.2.2.2.blk H1.out.2.1 (fun q => by rcases q with q | q <;> omega)) (fun q => by have q' : T = pb := q; omega)
         obtain ⟨Tk, hTk⟩ : ∃ Tk, w8.heap.size = Tk := ⟨_, rfl⟩
         have hTbk : Tb + 1 < Tk := by have := bE8.lt; omega
         have hz7 : Tb + 1 < w7.heap.size := (H7.out.2.blk H6.out.2.1 hneE).lt
         obtain ⟨W9, hW9⟩ : ∃ W9, (w8.setCell ⟨Tb + 1, 5, none⟩ (.slice (some ⟨Tk, 0, none⟩) 1 1)).alloc (.cells #[.int .i64 (k : Int), .string nm, .bool fl, .int .u64 (bi : Int), .slice a0 n0 c0, .slice a1 n1 c1, .slice a2 n2 c2, .slice a3 n3 c3] 49) = W9 := ⟨_, rfl⟩
         have g9 : Fr (fun b => b = Tb + 1) w8 W9 := by rw [← hW9]; exact frG
         have bK9 : Blk W9 Tk #[.int .i64 (k : Int), .string nm, .bool fl, .int .u64 (bi : Int), .slice a0 n0 c0, .slice a1 n1 c1, .slice a2 n2 c2, .slice a3 n3 c3] 49 := by
          rw [← hW9]
          have h := Blk.new (w8.setCell ⟨Tb + 1, 5, none⟩ (.slice (some ⟨Tk, 0, none⟩) 1 1)) #[.int .i64 (k : Int), .string nm, .bool fl, .int .u64 (bi : Int), .slice a0 n0 c0, .slice a1 n1 c1, .slice a2 n2 c2, .slice a3 n3 c3] 49
          rw [show (w8.setCell ⟨Tb + 1, 5, none⟩ (.slice (some ⟨Tk, 0, none⟩) 1 1)).heap.size = Tk by simp [World.setCell, hTk]] at h
          exact h
         have bE9 : Blk W9 (Tb + 1) #[.int .i64 6, .string ⟨#[]⟩, .bool false, .int .u64 0, .slice none 0 0, .slice (some ⟨Tk, 0, none⟩) 1 1, .slice av acc.length cv, .slice none 0 0] 49 := by
          rw [← hW9]
          (unfold Blk; simp (disch := first | omega | (simp; done) | (simp; omega)) only [hp_drew, hp_drewN, hp_alloc, hp_other, hp_same, hp_new, upd_cells, Option.map_some, (bE8).eq])
          simp
         have bT9 := g9.blk bT8 (fun q => by have q' : T = Tb + 1 := q; omega)
         have hE9 : EAt (fun b => b < T + 1 ∨ b = Tb + 1) W9 (eC k nm fl bi a0 n0 c0 a1 n1 c1 a2 n2 c2 a3 n3 c3) E := (hE.mono (Y := fun b => b < T + 1 ∨ b = Tb + 1) (fun b _ q => by have q2 : b < w7.heap.size := (by rcases q with q | q <;> omega); simpa using q2)).fr g9 (fun b q => .inr q)
         have hR9 := hR8.frK lawB g9 (fun b q => .inr q) (fun z q e => HVT.out (by have e' : z = Tb + 1 := e; rw [← e']; exact q))
         have F9 : Fr (fun b => b = pb) w W9 := Fw8.trans g9 (fun b hb q => by have q' : b = Tb + 1 := q; omega)
         obtain ⟨bc, hbc, hbc2⟩ := hR9.row (lawX lawB _)
         have H9 := Lib.hid (And.intro bK9 (And.intro hE9 (And.intro (g9.blk h8.blk (fun q => by have q' : pb = Tb + 1 := q; omega)) (And.intro h8 F9))))
         have HBC := Lib.hid (And.intro hbc hbc2)
         have fin : Hid (∀ wf, Fr (fun b => b = T) W9 wf → QEnds pb vT L dp w (fun w' v => EVal (fun b => b < w.heap.size) w' v R.1) R.2 (.returned (.agg #[.int .i64 6, .string ⟨#[]⟩, .bool false, .int .u64 0, .slice none 0 0, .slice (some ⟨Tk, 0, none⟩) 1 1, .slice av acc.length cv, .slice none 0 0])) wf) := Lib.hid (fun wf fz => by
          have FF : Fr (fun b => b = pb) w wf := H9.out.2.2.2.2.trans fz (fun b hb q => by have q' : b = T := q; omega)
          rw [HRE.out.1]
          refine .inl ⟨hs80, _, rfl, ⟨_, rfl, EAt.rows (kids := [E]) (alts := []) (binds := acc) (params := []) (kc := fun _ => eC k nm fl bi a0 n0 c0 a1 n1 c1 a2 n2 c2 a3 n3 c3) (ac := fun _ => []) (bc := bc) 6 [] RowC.nil (RowC.one (fz.blk H9.out.1 (fun q => by have q' : Tk = T := q; omega)) rfl (by omega)) (fun i hi => ?_) ((HBC.out.1.fr fz (fun b q => by have q' : b = T := q; omega)).mono (by decide) (fun b _ q => by have q' : b < w.heap.size := q; show b < B; omega)) (fun i h => lawB.mono (lawB.fr (HBC.out.2 i h) fz (fun b q => .inl (by have q' : b = T := q; show b < B; omega))) (fun b _ q => .inl (by have q' : b < w.heap.size := q; show b < B; omega))) .nil (fun i h => absurd h (Nat.not_lt_zero i))⟩, ⟨fz.blk H9.out.2.2.1 (fun q => by have q' : pb = T := q; omega), H1.out.2.2.1.toks.fr FF (fun _ q => q), H9.out.2.2.2.1.le, H9.out.2.2.2.1.sz⟩, FF⟩
          obtain rfl : i = 0 := by simp at hi; exact hi
          exact (H9.out.2.1.fr fz (fun b q => by have q' : b = T := q; show b < T + 1 ∨ b = Tb + 1; omega)).mono (fun b _ q => by have q' : b < w.heap.size := q; show b < T + 1 ∨ b = Tb + 1; omega))
         have y0 := bE8.cell 0
         have y1 := bE8.cell 1
         have y2 := bE8.cell 2
         have y3 := bE8.cell 3
         have y4 := bE8.cell 4
         have y5 := bE8.cell 5
         have y6 := bE8.cell 6
         have y7 := bE8.cell 7
         simp at y0 y1 y2 y3 y4 y5 y6 y7
         have yf := bE8.free
         have yl := bE8.lt
         have HBB := Lib.hid (And.intro bE9 bT9)
         have HW9 := Lib.hid (And.intro hTk hW9)
         clear hW9 hTk g9 bK9 bE9 bT9 hE9 hR9 F9 hbc hbc2 hE h8 f8 F8 Fw8 bE8 hR8 bT8
         go_upto_region 6 with fail
         try rw [HW9.out.1]
         try rw [HW9.out.2]
         clear HW9 y0 y1 y2 y3 y4 y5 y6 y7 yf yl
         have bE9 := HBB.out.1
         have bT9 := HBB.out.2
         have y0 := bE9.cell 0
         have y1 := bE9.cell 1
         have y2 := bE9.cell 2
         have y3 := bE9.cell 3
         have y4 := bE9.cell 4
         have y5 := bE9.cell 5
         have y6 := bE9.cell 6
         have y7 := bE9.cell 7
         simp at y0 y1 y2 y3 y4 y5 y6 y7
         have yf := bE9.free
         have yl := bE9.lt
         have z0 := bT9.cell 0
         have z1 := bT9.cell 1
         have z2 := bT9.cell 2
         have z3 := bT9.cell 3
         have z4 := bT9.cell 4
         have z5 := bT9.cell 5
         have z6 := bT9.cell 6
         have z7 := bT9.cell 7
         simp at z0 z1 z2 z3 z4 z5 z6 z7
         have zf := bT9.free
         have zl := bT9.lt
         clear bE9 bT9
         go_wp2
         (try simp only [Exit.inBlock, Exit.then])
         refine bodyPost_ret (v := .agg #[.int .i64 6, .string ⟨#[]⟩, .bool false, .int .u64 0, .slice none 0 0, .slice (some ⟨Tk, 0, none⟩) 1 1, .slice av acc.length cv, .slice none 0 0]) (by simp [results, Tryz.results104, go_sem, *]) rfl ?_
         exact fin.out _ (by exact frG)
       · have hb2 := hbr.back (H6.out.2.2.2.1.comp H7.out.2)
         obtain ⟨_, rfl, _⟩ := hbr
         refine ⟨rfl, .inr ?_⟩
         rw [HRE.out.1]
         exact hb2
     · have hb2 := hbr.back (H6.out.2.2.2.1.comp HF6.out)
       obtain ⟨hne, rfl, _⟩ := hbr
       refine ⟨rfl, .inr ?_⟩
       rw [HRE.out.1, HRE.out.2 hne]
       exact hb2
 · have hb2 := hbr.back HT.out
   obtain ⟨hne, rfl, _⟩ := hbr
   refine ⟨rfl, .inr ?_⟩
   have e2 : RA = ([A0], s1) := by rw [← HQ.out.1, binds_bad hne]
   have e3 : R.2 = s1 := by rw [HRQ.out, e2]; simp only; rw [need_stop hne, expr_stop hne]
   rw [e3]
   exact hb2
end
theorem token_stop {L : List TokV} {k : Int} {s : PS} (h : s.e ≠ 0) : tokenF L k s = (none_ 0, s) := by
 unfold tokenF faultF
 rw [if_neg (fun q => h q.1), if_pos h]
theorem names_stop {L : List TokV} {n : Nat} {least : Bool} {acc : List (List UInt8)} {s : PS} (h : s.e ≠ 0) : namesF L n least acc s = (acc, s) := by
 cases n with
 | zero => rfl
 | succ n => unfold namesF; rw [if_neg (fun q => h q.1)]
theorem alt_stop {L : List TokV} {d : Nat} {s : PS} (h : s.e ≠ 0) : (altF L (exprF L d) s).2 = s := by
 have hh : (altHead L s).2 = s := by
  unfold altHead
  split
  · rw [token_stop h]; simp only; rw [names_stop h]
  · split
    · rw [token_stop h]
    · rw [token_stop h]
 unfold altF
 simp only
 rw [hh, need_stop h, expr_stop h]
section
variable {w : World} {pb : Nat} {vT : Value} {L : List TokV} {s : PS} {dp : Int} {d : Nat}
theorem qchoice_any (hex : QReads pb vT L d dp) (hs : s.e = 0) (hlt : s.at_ < L.length) (h : QAt w pb vT L (s.at_ + 1) dp) :
 Calls Tryz.prog 105 #[.pointer (some ⟨pb, 0, none⟩)] w (QEnds pb vT L dp w (fun w' v => EVal (fun b => b < w.heap.size) w' v (choiceF L (exprF L d) s).1) (choiceF L (exprF L d) s).2) := by
 obtain ⟨i0, hi, hz0, hz1, hz2⟩ := info_parts infoA
 obtain ⟨T, hT⟩ : ∃ T, w.heap.size = T := ⟨_, rfl⟩
 obtain ⟨W1, hW1⟩ : ∃ W1, w.alloc (.cells #[.int .i64 0, .string ⟨#[]⟩, .bool false, .int .u64 0, .slice none 0 0, .slice none 0 0, .slice none 0 0, .slice none 0 0] 49) = W1 := ⟨_, rfl⟩
 have f1 : Fr Nil w W1 := by rw [← hW1]; exact frA
 have bT1 : Blk W1 T #[.int .i64 0, .string ⟨#[]⟩, .bool false, .int .u64 0, .slice none 0 0, .slice none 0 0, .slice none 0 0, .slice none 0 0] 49 := by rw [← hW1, ← hT]; exact Blk.new _ _ _
 have hs1 : W1.heap.size = T + 1 := by rw [← hW1, ← hT]; simp
 have hpT : pb < T := by rw [← hT]; exact h.blk.lt
 have hwT : w.heap.size ≤ T := Nat.le_of_eq hT
 have hsz := h.sz
 obtain ⟨⟨E0, s1⟩, hE0⟩ : ∃ r, exprF L d { s with at_ := s.at_ + 1 } = r := ⟨_, rfl⟩
 have HE0 := Lib.hid (hex W1 { s with at_ := s.at_ + 1 } hs (h.fr f1))
 rw [hE0] at HE0
 simp only at HE0
 obtain ⟨s2, hs2⟩ : ∃ s2, needF L [111, 102] s1 = s2 := ⟨_, rfl⟩
 obtain ⟨s3, hs3⟩ : ∃ s3, needF L [123] s2 = s3 := ⟨_, rfl⟩
 have HN2 : Hid (∀ w', s1.e = 0 → QAt w' pb vT L s1.at_ dp → Calls Tryz.prog 41 #[.pointer (some ⟨pb, 0, none⟩), .string ⟨#[111, 102]⟩] w' (QEnds pb vT L dp w' (fun _ v => v = .tuple #[]) s2)) := Lib.hid (fun w' q h' => by rw [← hs2]; exact qwant_any [111, 102] q h')
 have HN3 : Hid (∀ w', s2.e = 0 → QAt w' pb vT L s2.at_ dp → Calls Tryz.prog 41 #[.pointer (some ⟨pb, 0, none⟩), .string ⟨#[123]⟩] w' (QEnds pb vT L dp w' (fun _ v => v = .tuple #[]) s3)) := Lib.hid (fun w' q h' => by rw [← hs3]; exact qwant_any [123] q h')
 have hb2 : s1.e ≠ 0 → s2 = s1 := fun q => by rw [← hs2, need_stop q]
 have hb3 : s2.e ≠ 0 → s3 = s2 := fun q => by rw [← hs3, need_stop q]
 obtain ⟨⟨A0, s4⟩, hA⟩ : ∃ r, altF L (exprF L d) s3 = r := ⟨_, rfl⟩
 have hb4 : s3.e ≠ 0 → s4 = s3 := fun q => by
  have h := alt_stop (L := L) (d := d) q
  rw [hA] at h
  exact h
 have HA0 : Hid (∀ w', s3.e = 0 → QAt w' pb vT L s3.at_ dp → Calls Tryz.prog 124 #[.pointer (some ⟨pb, 0, none⟩)] w' (QEnds pb vT L dp w' (fun w'' v => AVal (fun b => b < w'.heap.size) w'' v A0) s4)) := Lib.hid (fun w' q h' => by
  have h := qalt_any hex q h'
  rw [hA] at h
  exact h)
 obtain ⟨RA, hRA⟩ : ∃ RA, altsF L (exprF L d) (fuelP L) [A0] s4 = RA := ⟨_, rfl⟩
 obtain ⟨R, hR⟩ : ∃ R, choiceF L (exprF L d) s = R := ⟨_, rfl⟩
 have eR : R = if s3.e = 0 ∧ seesF L [125] s3 = true then (.mk 7 [] false 0 [] [E0] [] [], { s3 with at_ := s3.at_ + 1 }) else (.mk 7 [] false 0 [] [E0] [] RA.1, needF L [125] RA.2) := by
  rw [← hR]
  unfold choiceF
  rw [hE0]
  simp only [hs2, hs3, hA, hRA]
 have hbad : s3.e ≠ 0 → R.2 = s3 := fun q => by
  have q4 : s4.e ≠ 0 := by rw [hb4 q]; exact q
  have e2 : RA = ([A0], s4) := by rw [← hRA, alts_bad q4]
  rw [eR, if_neg (fun z => q z.1), e2]
  simp only
  rw [need_stop q4, hb4 q]
 have hbad1 : s1.e ≠ 0 → R.2 = s1 := fun q => by
  have e2 := hb2 q
  have q2 : s2.e ≠ 0 := by rw [e2]; exact q
  have e3 := hb3 q2
  have q3 : s3.e ≠ 0 := by rw [e3]; exact q2
  rw [hbad q3, e3, e2]
 have hbad2 : s2.e ≠ 0 → R.2 = s2 := fun q => by
  have e3 := hb3 q
  have q3 : s3.e ≠ 0 := by rw [e3]; exact q
  rw [hbad q3, e3]
 rw [hR]
 obtain ⟨F, hF⟩ : ∃ F, fuelP L = F := ⟨_, rfl⟩
 have hm := measP_le L s4
 rw [hF] at hRA hm
 have hF2 : F ≤ 1000002 := by unfold fuelP at hF; omega
 have HQ := Lib.hid (And.intro hRA hm)
 have HRB := Lib.hid (And.intro hbad1 (And.intro hbad2 (And.intro hbad eR)))
 have HX := Lib.hid hex
 have H1 := Lib.hid (And.intro f1 (And.intro bT1 (And.intro h hs)))
 have HW1 := Lib.hid (And.intro hT hW1)
 clear hE0 hs2 hs3 hb2 hb3 hb4 hbad hbad1 hbad2 hA hRA hR eR hm hF hex f1 bT1 h hs hT hW1
 go_enter Tryz.func105, Tryz.ntmps105
 go_upto_region 1 with fail
 try rw [HW1.out.1]
 try rw [HW1.out.2]
 clear HW1
 go_wp2_with fail
 refine HE0.out.mono ?_
 rintro e w2 (⟨hs10, va, rfl, ⟨cs, rfl, hE2⟩, h2, f2⟩ | hbr)
 · obtain ⟨k, nm, fl, bi, a0, n0, c0, a1, n1, c1, a2, n2, c2, a3, n3, c3, rfl⟩ := hE2.form
   unfold eC
   have hzw2 := f2.size
   obtain ⟨Tk, hTk⟩ : ∃ Tk, w2.heap.size = Tk := ⟨_, rfl⟩
   obtain ⟨W2, hW2⟩ : ∃ W2, (w2.alloc (.cells #[.int .i64 (k : Int), .string nm, .bool fl, .int .u64 (bi : Int), .slice a0 n0 c0, .slice a1 n1 c1, .slice a2 n2 c2, .slice a3 n3 c3] 49)).alloc (.cells #[.int .i64 7, .string ⟨#[]⟩, .bool false, .int .u64 0, .slice none 0 0, .slice (some ⟨Tk, 0, none⟩) 1 1, .slice none 0 0, .slice none 0 0] 49) = W2 := ⟨_, rfl⟩
   have g2 : Fr Nil w2 W2 := by rw [← hW2]; exact frA
   have bK2 : Blk W2 Tk #[.int .i64 (k : Int), .string nm, .bool fl, .int .u64 (bi : Int), .slice a0 n0 c0, .slice a1 n1 c1, .slice a2 n2 c2, .slice a3 n3 c3] 49 := by
    rw [← hW2]
    have h := Blk.new w2 #[.int .i64 (k : Int), .string nm, .bool fl, .int .u64 (bi : Int), .slice a0 n0 c0, .slice a1 n1 c1, .slice a2 n2 c2, .slice a3 n3 c3] 49
    rw [hTk] at h
    exact ((Fr.refl Nil _).alloc _).blk h (fun q => q)
   have bE2 : Blk W2 (Tk + 1) #[.int .i64 7, .string ⟨#[]⟩, .bool false, .int .u64 0, .slice none 0 0, .slice (some ⟨Tk, 0, none⟩) 1 1, .slice none 0 0, .slice none 0 0] 49 := by
    rw [← hW2]
    have h := Blk.new (w2.alloc (.cells #[.int .i64 (k : Int), .string nm, .bool fl, .int .u64 (bi : Int), .slice a0 n0 c0, .slice a1 n1 c1, .slice a2 n2 c2, .slice a3 n3 c3] 49)) #[.int .i64 7, .string ⟨#[]⟩, .bool false, .int .u64 0, .slice none 0 0, .slice (some ⟨Tk, 0, none⟩) 1 1, .slice none 0 0, .slice none 0 0] 49
    rw [show (w2.alloc (.cells #[.int .i64 (k : Int), .string nm, .bool fl, .int .u64 (bi : Int), .slice a0 n0 c0, .slice a1 n1 c1, .slice a2 n2 c2, .slice a3 n3 c3] 49)).heap.size = Tk + 1 by simp [hTk]] at h
    exact h
   have hTTk : T < Tk := by omega
   have hneE : ¬ (Tk + 1 = pb) := by omega
   have hEE : EAt (fun b => b < T + 1 ∨ b = Tk + 1) W2 (eC k nm fl bi a0 n0 c0 a1 n1 c1 a2 n2 c2 a3 n3 c3) E0 := (hE2.mono (Y := fun b => b < T + 1 ∨ Tk ≤ b) (fun b hb q => by rcases q with q | q <;> omega)).fr g2 (fun _ q => q.elim) |>.mono (fun b _ q => by rcases q with q | q; exact .inl q; exact .inr (by omega))
   have bT2 := g2.blk (f2.blk H1.out.2.1 (fun q => by have q' : T = pb := q; omega)) (fun q => q)
   have H2 := Lib.hid (And.intro bK2 (And.intro bE2 (And.intro hEE (And.intro bT2 (And.intro (h2.fr g2) ((Fr.of_nil H1.out.1).comp (f2.via g2)))))))
   have hTew : w.heap.size ≤ Tk + 1 := by omega
   have HW2 := Lib.hid (And.intro hTk hW2)
   clear hW2 hTk g2 bK2 bE2 hEE bT2 h2 hE2 f2 HE0
   go_upto_region 2 with fail
   try rw [HW2.out.1]
   try rw [HW2.out.2]
   clear HW2
   go_wp2_with fail
   refine (HN2.out _ hs10 (H2.out.2.2.2.2.1.fr (by exact frA))).mono ?_
   rintro e w3 (⟨hs20, va, rfl, rfl, h3, f3⟩ | hbr)
   · have F3 : Fr (fun b => b = pb) W2 w3 := Fr.comp (S := fun b => b = pb) (by exact frG) f3
     have H3 := Lib.hid (And.intro h3 F3)
     clear h3 f3 F3
     go_wp2_with fail
     refine (HN3.out _ hs20 (H3.out.1.fr (by exact frA))).mono ?_
     rintro e w4 (⟨hs30, va, rfl, rfl, h4, f4⟩ | hbr)
     · have F4 : Fr (fun b => b = pb) W2 w4 := H3.out.2.comp (Fr.comp (S := fun b => b = pb) (by exact frG) f4)
       have HI0 := Lib.hid (fun w' (f : Fr Nil w4 w') => qis_any [125] hs30 (h4.fr f))
       have H4 := Lib.hid F4
       clear h4 f4 F4
       cases hse0 : seesF L [125] s3 with
       | true =>
        simp only [hse0, if_true] at HI0
        have hl3 := sees_lt hse0
        have eR := HRB.out.2.2.2
        rw [if_pos ⟨hs30, hse0⟩] at eR
        have HRE := Lib.hid eR
        clear eR hse0
        go_wp2_with fail
        refine (HI0.out _ (by exact frA)).mono ?_
        rintro e w5 ⟨rfl, h5, f5⟩
        have F5 : Fr (fun b => b = pb) W2 w5 := H4.out.comp (Fr.comp (S := fun b => b = pb) (by exact frG) f5)
        have bE5 := F5.blk H2.out.2.1 hneE
        have bT5 := F5.blk H2.out.2.2.2.1 (fun q => by have q' : T = pb := q; omega)
        have H5 := Lib.hid (And.intro h5 (And.intro (F5.blk H2.out.1 (fun q => by have q' : Tk = pb := q; omega)) (And.intro (H2.out.2.2.1.fr F5 (fun b q => by have q' : b = pb := q; show b < T + 1 ∨ b = Tk + 1; omega)) (H2.out.2.2.2.2.2.comp F5))))
        have y0 := bE5.cell 0
        have y1 := bE5.cell 1
        have y2 := bE5.cell 2
        have y3 := bE5.cell 3
        have y4 := bE5.cell 4
        have y5 := bE5.cell 5
        have y6 := bE5.cell 6
        have y7 := bE5.cell 7
        simp at y0 y1 y2 y3 y4 y5 y6 y7
        have yf := bE5.free
        have yl := bE5.lt
        have z0 := bT5.cell 0
        have z1 := bT5.cell 1
        have z2 := bT5.cell 2
        have z3 := bT5.cell 3
        have z4 := bT5.cell 4
        have z5 := bT5.cell 5
        have z6 := bT5.cell 6
        have z7 := bT5.cell 7
        simp at z0 z1 z2 z3 z4 z5 z6 z7
        have zf := bT5.free
        have zl := bT5.lt
        clear h5 f5 F5 bE5 bT5
        have fin : Hid (∀ wf, Fr (fun b => b = T) w5 wf → QEnds pb vT L dp w (fun w' v => EVal (fun b => b < w.heap.size) w' v R.1) R.2 (.returned (.agg #[.int .i64 7, .string ⟨#[]⟩, .bool false, .int .u64 0, .slice none 0 0, .slice (some ⟨Tk, 0, none⟩) 1 1, .slice none 0 0, .slice none 0 0])) wf) := Lib.hid (fun wf fz => by
         have FF : Fr (fun b => b = pb) w wf := H5.out.2.2.2.trans fz (fun b hb q => by have q' : b = T := q; omega)
         rw [HRE.out]
         refine .inl ⟨hs30, _, rfl, ⟨_, rfl, EAt.app (ks := [E0]) (kc := fun _ => eC k nm fl bi a0 n0 c0 a1 n1 c1 a2 n2 c2 a3 n3 c3) 7 [] (RowC.one (fz.blk H5.out.2.1 (fun q => by have q' : Tk = T := q; omega)) rfl (by omega)) (fun i hi => ?_)⟩, ⟨fz.blk H5.out.1.blk (fun q => by have q' : pb = T := q; omega), H1.out.2.2.1.toks.fr FF (fun _ q => q), H5.out.1.le, H5.out.1.sz⟩, FF⟩
         obtain rfl : i = 0 := by simp at hi; exact hi
         exact (H5.out.2.2.1.fr fz (fun b q => by have q' : b = T := q; show b < T + 1 ∨ b = Tk + 1; omega)).mono (fun b _ q => by have q' : b < w.heap.size := q; show b < T + 1 ∨ b = Tk + 1; omega))
        go_wp2
        (try simp only [Exit.inBlock, Exit.then])
        refine bodyPost_ret (v := .agg #[.int .i64 7, .string ⟨#[]⟩, .bool false, .int .u64 0, .slice none 0 0, .slice (some ⟨Tk, 0, none⟩) 1 1, .slice none 0 0, .slice none 0 0]) (by simp [results, Tryz.results105, go_sem, *]) rfl ?_
        exact fin.out _ (by exact frG)
       | false =>
        simp only [hse0, Bool.false_eq_true, if_false] at HI0
        have eR := HRB.out.2.2.2
        rw [if_neg (fun q => by rw [hse0] at q; exact absurd q.2 (by decide))] at eR
        have HRQ := Lib.hid eR
        clear eR hse0
        go_wp2_with fail
        refine (HI0.out _ (by exact frA)).mono ?_
        rintro e Wz ⟨rfl, h5, f5⟩
        have F5 : Fr (fun b => b = pb) W2 Wz := H4.out.comp (Fr.comp (S := fun b => b = pb) (by exact frG) f5)
        obtain ⟨B, hB⟩ : ∃ B, Wz.heap.size = B := ⟨_, rfl⟩
        have bE5 := F5.blk H2.out.2.1 hneE
        have hTkB : Tk + 1 < B := by rw [← hB]; exact bE5.lt
        have bT5 := F5.blk H2.out.2.2.2.1 (fun q => by have q' : T = pb := q; omega)
        have HT := Lib.hid (H2.out.2.2.2.2.2.comp F5)
        have H5 := Lib.hid (And.intro h5 (And.intro (F5.blk H2.out.1 (fun q => by have q' : Tk = pb := q; omega)) (And.intro (H2.out.2.2.1.fr F5 (fun b q => by have q' : b = pb := q; show b < T + 1 ∨ b = Tk + 1; omega)) (And.intro bE5 bT5))))
        clear h5 f5 F5 bE5 bT5
        go_wp2_with fail
        refine (HA0.out _ hs30 (H5.out.1.fr (by exact frA))).mono ?_
        rintro e w5 (⟨hs10', va, rfl, hva, h6, f6⟩ | hbr)
        · obtain ⟨tk, tn, tf, tb, pa, pn, pc, k', nm', fl', bi', b0, m0, d0, b1, m1, d1, b2, m2, d2, b3, m3, d3, rfl, hAA⟩ := aval_form hva
          have F6 : Fr (fun b => b = pb) Wz w5 := Fr.comp (S := fun b => b = pb) (by exact frG) f6
          have hAA : AAt (fun b => b < B) w5 [.int .i64 (tk : Int), .string tn, .bool tf, .int .u64 (tb : Int), .slice pa pn pc, .int .i64 (k' : Int), .string nm', .bool fl', .int .u64 (bi' : Int), .slice b0 m0 d0, .slice b1 m1 d1, .slice b2 m2 d2, .slice b3 m3 d3] A0 := lawA.mono hAA (fun b _ q => by have q' : b < B := q; have q2 : b < Wz.heap.size := (by omega); simpa using q2)
          obtain ⟨Tb, hTb⟩ : ∃ Tb, w5.heap.size = Tb := ⟨_, rfl⟩
          have bE6 := F6.blk H5.out.2.2.2.1 hneE
          have hBTb : B ≤ Tb := by rw [← hB, ← hTb]; exact F6.size
          obtain ⟨W5, hW5⟩ : ∃ W5, (w5.setCell ⟨Tk + 1, 7, none⟩ (.slice (some ⟨Tb, 0, none⟩) 1 1)).alloc (.cells #[.int .i64 (tk : Int), .string tn, .bool tf, .int .u64 (tb : Int), .slice pa pn pc, .int .i64 (k' : Int), .string nm', .bool fl', .int .u64 (bi' : Int), .slice b0 m0 d0, .slice b1 m1 d1, .slice b2 m2 d2, .slice b3 m3 d3] 120) = W5 := ⟨_, rfl⟩
          have g5 : Fr (fun b => b = Tk + 1) w5 W5 := by rw [← hW5]; exact frG
          have bB5 : Blk W5 Tb [.int .i64 (tk : Int), .string tn, .bool tf, .int .u64 (tb : Int), .slice pa pn pc, .int .i64 (k' : Int), .string nm', .bool fl', .int .u64 (bi' : Int), .slice b0 m0 d0, .slice b1 m1 d1, .slice b2 m2 d2, .slice b3 m3 d3].toArray 120 := by
           rw [← hW5]
           have h := Blk.new (w5.setCell ⟨Tk + 1, 7, none⟩ (.slice (some ⟨Tb, 0, none⟩) 1 1)) [.int .i64 (tk : Int), .string tn, .bool tf, .int .u64 (tb : Int), .slice pa pn pc, .int .i64 (k' : Int), .string nm', .bool fl', .int .u64 (bi' : Int), .slice b0 m0 d0, .slice b1 m1 d1, .slice b2 m2 d2, .slice b3 m3 d3].toArray 120
           rw [show (w5.setCell ⟨Tk + 1, 7, none⟩ (.slice (some ⟨Tb, 0, none⟩) 1 1)).heap.size = Tb by simp [World.setCell, hTb]] at h
           exact h
          have bE7 : Blk W5 (Tk + 1) #[.int .i64 7, .string ⟨#[]⟩, .bool false, .int .u64 0, .slice none 0 0, .slice (some ⟨Tk, 0, none⟩) 1 1, .slice none 0 0, .slice (some ⟨Tb, 0, none⟩) 1 1] 49 := by
           rw [← hW5]
           (unfold Blk; simp (disch := first | omega | (simp; done) | (simp; omega)) only [hp_drew, hp_drewN, hp_alloc, hp_other, hp_same, hp_new, upd_cells, Option.map_some, (bE6).eq])
           simp
          have hrow : RowsAt (RX (fun b => b = Tk + 1) AAt) 13 120 B W5 (.slice (some ⟨Tb, 0, none⟩) 1 1) [A0] :=
           RowsAt.one bB5 rfl hBTb (lawA.mono (lawA.fr (lawA.mono (Y := fun b => b < B ∨ Tb ≤ b) hAA (fun b hb q => by rcases q with q | q <;> omega)) g5 (fun b q => by have q' : b = Tk + 1 := q; exact .inl (by omega))) (fun b hb q => by
            rcases q with (q | q) | q
            · exact .inl q
            · cases q; exact .inr (Nat.le_refl _)
            · have q' : b = Tk + 1 := q; exact .inl (by omega)))
          have hQ5 : QAt W5 pb vT L s4.at_ dp := ⟨g5.blk h6.blk (fun q => by have q' : pb = Tk + 1 := q; omega), H1.out.2.2.1.toks.fr ((HT.out.comp F6).trans g5 (fun b hb q => by have q' : b = Tk + 1 := q; omega)) (fun _ q => q), h6.le, h6.sz⟩
          have G5 : Fr (fun b => b = pb ∨ b = Tk + 1) Wz W5 := (F6.mono (fun _ _ q => .inl q)).comp (g5.mono (fun _ _ q => .inr q))
          have HS0 := Lib.hid (And.intro hrow (And.intro hQ5 (And.intro bE7 (And.intro G5 (show Value.ownBlock (.slice (some ⟨Tb, 0, none⟩) 1 1) ≠ some (Tk + 1) from fun q => by simp [Value.ownBlock] at q; omega)))))
          have y0 := bE6.cell 0
          have y1 := bE6.cell 1
          have y2 := bE6.cell 2
          have y3 := bE6.cell 3
          have y4 := bE6.cell 4
          have y5 := bE6.cell 5
          have y6 := bE6.cell 6
          have y7 := bE6.cell 7
          simp at y0 y1 y2 y3 y4 y5 y6 y7
          have yf := bE6.free
          have yl := bE6.lt
          have HW5 := Lib.hid (And.intro hTb hW5)
          clear hW5 hTb g5 bB5 bE6 bE7 hrow hQ5 G5 h6 hAA hva f6 F6
          have hs10 := hs10'
          obtain ⟨s1, hs1e⟩ : ∃ x, x = s4 := ⟨_, rfl⟩
          subst hs1e
          go_wp2_with fail
          try rw [HW5.out.1]
          try rw [HW5.out.2]
          clear HW5 y0 y1 y2 y3 y4 y5 y6 y7 yf yl
          go_loopg [] F (fun g wr => ∃ (acc : List TA) (st : PS) (v : Value), acc.length + g = F + 1 ∧ Hid (altsF L (exprF L d) g acc st = RA ∧ measP L st + 1 ≤ g ∧ st.e = 0 ∧ RowsAt (RX (fun b => b = (Tk + 1)) AAt) 13 120 B wr v acc ∧ QAt wr pb vT L st.at_ dp ∧ Blk wr (Tk + 1) #[.int .i64 7, .string ⟨#[]⟩, .bool false, .int .u64 0, .slice none 0 0, .slice (some ⟨Tk, 0, none⟩) 1 1, .slice none 0 0, v] 49 ∧ Fr (fun b => b = pb ∨ b = (Tk + 1)) Wz wr ∧ v.ownBlock ≠ some (Tk + 1)))
          case atStart => exact ⟨[A0], s1, _, by simp; omega, Lib.hid ⟨HQ.out.1, HQ.out.2, hs10, HS0.out.1, HS0.out.2.1, HS0.out.2.2.1, HS0.out.2.2.2.1, HS0.out.2.2.2.2⟩⟩
          case round =>
           obtain ⟨acc, st, v, hg, HS⟩ := hrel
           obtain ⟨Vr, hVr⟩ : ∃ V, V = wr := ⟨_, rfl⟩
           subst hVr
           obtain ⟨av, cv, rfl⟩ := HS.out.2.2.2.1.shape
           obtain ⟨f, rfl⟩ : ∃ f, gk = f + 1 := ⟨gk - 1, by have := HS.out.2.1; omega⟩
           have he := HS.out.2.2.1
           have hst := HS.out.1
           have hme := HS.out.2.1
           have HI := Lib.hid (fun w' (f : Fr Nil Vr w') => qis_any [59] he (HS.out.2.2.2.2.1.fr f))
           have HVT := Lib.hid HS.out.2.2.2.2.2.2.2
           cases hse : seesF L [59] st with
           | true =>
            simp only [hse, if_true] at HI
            obtain ⟨⟨A1, s6⟩, hA1⟩ : ∃ r, altF L (exprF L d) { st with at_ := st.at_ + 1 } = r := ⟨_, rfl⟩
            unfold altsF at hst
            rw [if_pos ⟨he, hse⟩, hA1] at hst
            have hmf : measP L s6 + 1 ≤ f := by
             have h := alt_goes (L := L) (expr_goes L d) { st with at_ := st.at_ + 1 }
             rw [hA1] at h
             have h2 : measP L s6 < measP L st := measP_lt he (sees_lt hse) h
             omega
            have hcall : ∀ w', QAt w' pb vT L (st.at_ + 1) dp → Calls Tryz.prog 124 #[.pointer (some ⟨pb, 0, none⟩)] w' (QEnds pb vT L dp w' (fun w'' v => AVal (fun b => b < w'.heap.size) w'' v A1) s6) := fun w' h' => by
             have h := qalt_any (s := { st with at_ := st.at_ + 1 }) HX.out he h'
             rw [hA1] at h
             exact h
            have HST := Lib.hid (And.intro hst hmf)
            have HC := Lib.hid hcall
            clear hst hmf hA1 hcall he hse hme
            go_wp2_with fail
            refine (HI.out _ (by exact frA)).mono ?_
            rintro e w6 ⟨rfl, h6, f6⟩
            have F6 : Fr (fun b => b = pb) Vr w6 := Fr.comp (S := fun b => b = pb) (by exact frG) f6
            have hR6 := HS.out.2.2.2.1.fr (lawX lawA _) F6 (fun b q => by have q' : b = pb := q; omega)
            have bE6 := F6.blk HS.out.2.2.2.2.2.1 hneE
            have G6 := HS.out.2.2.2.2.2.2.1.comp (F6.mono (fun _ _ q => .inl q))
            obtain ⟨cl, hcl⟩ := hR6.cells
            have hX1 : Hid (QAt w6 pb vT L (st.at_ + 1) dp ∧ Blk w6 (Tk + 1) #[.int .i64 7, .string ⟨#[]⟩, .bool false, .int .u64 0, .slice none 0 0, .slice (some ⟨Tk, 0, none⟩) 1 1, .slice none 0 0, .slice av acc.length cv] 49 ∧ w6.ownsRow B 120 13 (.slice av acc.length cv) acc.length cl) := ⟨h6, bE6, hcl⟩
            have HRV := Lib.hid (And.intro hR6 G6)
            have p6 := bE6.cell 7
            simp at p6
            have Elt := bE6.lt
            have hsV := G6.size
            clear f6 F6 h6 hR6 bE6 G6 hcl
            go_upto_region 8 with fail
            by_cases h60 : s6.e = 0
            · have hok : ∀ w', Fr Nil w6 w' → Calls Tryz.prog 124 #[.pointer (some ⟨pb, 0, none⟩)] w' fun e w'' => ∃ (tk : Nat) (tn : ByteArray) (tf : Bool) (tb : Nat) (pa : Option Addr) (pn pc k' : Nat) (nm' : ByteArray) (fl' : Bool) (bi' : Nat) (b0 : Option Addr) (m0 d0 : Nat) (b1 : Option Addr) (m1 d1 : Nat) (b2 : Option Addr) (m2 d2 : Nat) (b3 : Option Addr) (m3 d3 : Nat), e = .returned (.agg #[.int .i64 (tk : Int), .string tn, .bool tf, .int .u64 (tb : Int), .slice pa pn pc, .int .i64 (k' : Int), .string nm', .bool fl', .int .u64 (bi' : Int), .slice b0 m0 d0, .slice b1 m1 d1, .slice b2 m2 d2, .slice b3 m3 d3]) ∧ AAt (fun b => b < w6.heap.size) w'' [.int .i64 (tk : Int), .string tn, .bool tf, .int .u64 (tb : Int), .slice pa pn pc, .int .i64 (k' : Int), .string nm', .bool fl', .int .u64 (bi' : Int), .slice b0 m0 d0, .slice b1 m1 d1, .slice b2 m2 d2, .slice b3 m3 d3] A1 ∧ QAt w'' pb vT L s6.at_ dp ∧ Fr (fun b => b = pb) w6 w'' := fun w' f => (HC.out w' (hX1.out.1.fr f)).mono (fun e w'' q => by
               rcases q with ⟨_, v, rfl, hv, hq, f2⟩ | q
               · obtain ⟨tk, tn, tf, tb, pa, pn, pc, k', nm', fl', bi', b0, m0, d0, b1, m1, d1, b2, m2, d2, b3, m3, d3, rfl, hAA⟩ := aval_form hv
                 have z1 := f.size
                 exact ⟨tk, tn, tf, tb, pa, pn, pc, k', nm', fl', bi', b0, m0, d0, b1, m1, d1, b2, m2, d2, b3, m3, d3, rfl, lawA.mono hAA (fun b _ q => by have q' : b < w6.heap.size := q; show b < w'.heap.size; omega), hq, (Fr.of_nil f).comp f2⟩
               · exact absurd h60 q.1)
              have HOk := Lib.hid hok
              clear hok
              go_region_law (first
               | (refine step_push (w := wa) rfl (.tmp 22) (.tmp 25) 47 rfl B 120 i0 (.agg #[.int .i64 0, .string ⟨#[]⟩, .bool false, .int .u64 0, .slice none 0 0, .int .i64 0, .string ⟨#[]⟩, .bool false, .int .u64 0, .slice none 0 0, .slice none 0 0, .slice none 0 0, .slice none 0 0]) 13 200 Tryz.underlying47 hi hz0 hz1 hz2 rfl (by decide) (.slice av acc.length cv) acc.length cl (by simp [Act.eval, Act.put]) (owns_frS hX1.out.2.2 HA.out.2.1 (fun q z y => by have y' : q = pb := y; have := (hX1.out.2.2.lt q z).1; omega)) [.int .i64 (tk : Int), .string tn, .bool tf, .int .u64 (tb : Int), .slice pa pn pc, .int .i64 (k' : Int), .string nm', .bool fl', .int .u64 (bi' : Int), .slice b0 m0 d0, .slice b1 m1 d1, .slice b2 m2 d2, .slice b3 m3 d3] (by simp [Act.eval, Act.put]) rfl (by simp [Value.oneCell']) (by unfold maxLen; omega) (by omega) (by omega) ?_; intro v' w9 hown9 f9 hk9; have bE9 := f9.blk HA.out.2.2.1 (fun z => HVT.out z); have e6 := bE9.cell 7; simp at e6; have ef := bE9.free; have el := bE9.lt; obtain ⟨x9, y9, rfl⟩ := owns_shape hown9; have HO := Lib.hid (And.intro hown9 (And.intro f9 (And.intro hk9 bE9))); clear hown9 f9 hk9 bE9)
               | (go_simp; go_at_call 124; refine (HOk.out _ (by exact frA)).mono ?_; rintro e wa ⟨tk, tn, tf, tb, pa, pn, pc, k', nm', fl', bi', b0, m0, d0, b1, m1, d1, b2, m2, d2, b3, m3, d3, rfl, hAA, ha, fa'⟩; have bEa := fa'.blk hX1.out.2.1 hneE; have pa6 := bEa.cell 7; simp at pa6; have Elt := bEa.lt; have hsa := fa'.size; have HA := Lib.hid (And.intro ha (And.intro fa' (And.intro bEa hAA))); clear ha fa' bEa hAA))
              all_goals
               have E := qrow_end (Te := (Tk + 1)) lawA H1.out.2.2.1 HT.out hTew hB (by omega) HRV.out.2 HRV.out.1 HVT.out HA.out.1 HA.out.2.1 HA.out.2.2.2 hX1.out.2.2 HO.out.1 HO.out.2.1 HO.out.2.2.1 (wf := w9.setCell ⟨(Tk + 1), 7, none⟩ (.slice x9 (acc.length + 1) y9)) (by exact frG)
               have bEF : Blk (w9.setCell ⟨(Tk + 1), 7, none⟩ (.slice x9 (acc.length + 1) y9)) (Tk + 1) #[.int .i64 7, .string ⟨#[]⟩, .bool false, .int .u64 0, .slice none 0 0, .slice (some ⟨Tk, 0, none⟩) 1 1, .slice none 0 0, .slice x9 (acc.length + 1) y9] 49 := by
                (unfold Blk; simp (disch := first | omega | (simp; done) | (simp; omega)) only [hp_drew, hp_drewN, hp_alloc, hp_other, hp_same, hp_new, upd_cells, Option.map_some, (HO.out.2.2.2).eq])
                simp
               go_wp2_with fail
               go_roundg f
               case rel => exact ⟨acc ++ [A1], s6, .slice x9 (acc.length + 1) y9, by simp; omega, Lib.hid ⟨HST.out.1, HST.out.2, h60, E.1, E.2.1, bEF, E.2.2.1, E.2.2.2⟩⟩
               case measure => omega
            · refine wp_region_held_drew (S := fun w' => w'.cell? ⟨(Tk + 1), 7, none⟩ = some (.slice av acc.length cv)) (by kernel_rfl) p6 (fun hHeld => ?_)
              obtain ⟨W7, hW7⟩ : ∃ W, w6.drew = W := ⟨_, rfl⟩
              have f7 : Fr Nil w6 W7 := by rw [← hW7]; exact frA
              rw [hW7] at hHeld ⊢
              clear hW7
              refine held_take (i := 0) (v := ?_) rfl (by kernel_rfl) (by kernel_rfl) (by kernel_rfl) (fun _ _ _ h => h) (by rfl) (by assumption) ?_ ?_
              rotate_left
              · (intro w hSw; (try dsimp only at hSw); go_simp; try with_reducible rfl)
              try simp only [Act.put, List.setIfInBounds_toArray, List.set_cons_zero, List.set_cons_succ]
              refine held_take (i := 1) (v := ?_) rfl (by kernel_rfl) (by kernel_rfl) (by kernel_rfl) (fun _ _ _ h => h) (by rfl) (by assumption) ?_ ?_
              rotate_left
              · (intro w hSw; (try dsimp only at hSw); go_simp; try with_reducible rfl)
              try simp only [Act.put, List.setIfInBounds_toArray, List.set_cons_zero, List.set_cons_succ]
              refine held_take (i := 2) (v := ?_) rfl (by kernel_rfl) (by kernel_rfl) (by kernel_rfl) (fun _ _ _ h => h) (by rfl) (by assumption) ?_ ?_
              rotate_left
              · (intro w hSw; (try dsimp only at hSw); go_simp; try with_reducible rfl)
              try simp only [Act.put, List.setIfInBounds_toArray, List.set_cons_zero, List.set_cons_succ]
              refine held_one (i := 3) rfl (by kernel_rfl) (fun Kc hKc => ?_)
              go_simp
              refine (HC.out _ (hX1.out.1.fr f7)).mono ?_
              rintro r w8 (⟨q, _⟩ | hbr)
              · exact absurd q h60
              · have hb2 := hbr.back ((HT.out.trans HRV.out.2 (fun b hb q => by rcases q with q | q; exact q; omega)).via f7)
                obtain ⟨hne, rfl, _⟩ := hbr
                refine ⟨rfl, .inr ?_⟩
                have e2 : RA = (acc ++ [A1], s6) := by rw [← HST.out.1, alts_bad hne]
                have e3 : R.2 = s6 := by rw [HRQ.out, e2]; simp only; rw [need_stop hne]
                rw [e3]
                exact hb2
           | false =>
            simp only [hse, Bool.false_eq_true, if_false] at HI
            unfold altsF at hst
            rw [if_neg (fun q => by rw [hse] at q; exact absurd q.2 (by decide))] at hst
            have eR := HRQ.out
            rw [← hst] at eR
            simp only at eR
            obtain ⟨s7, hs7⟩ : ∃ s7, needF L [125] st = s7 := ⟨_, rfl⟩
            have hwn : ∀ w', QAt w' pb vT L st.at_ dp → Calls Tryz.prog 41 #[.pointer (some ⟨pb, 0, none⟩), .string ⟨#[125]⟩] w' (QEnds pb vT L dp w' (fun _ v => v = .tuple #[]) s7) := fun w' h' => by
             rw [← hs7]
             exact qwant_any [125] he h'
            rw [hs7] at eR
            have HRE := Lib.hid eR
            have HWn := Lib.hid hwn
            clear hst hs7 hwn eR he hse hme
            go_wp2_with fail
            refine (HI.out _ (by exact frA)).mono ?_
            rintro e w6 ⟨rfl, h6, f6⟩
            have F6 : Fr (fun b => b = pb) Vr w6 := Fr.comp (S := fun b => b = pb) (by exact frG) f6
            have H6 := Lib.hid (And.intro h6 (And.intro (HS.out.2.2.2.2.2.1) (And.intro HS.out.2.2.2.1 (And.intro (HT.out.trans HS.out.2.2.2.2.2.2.1 (fun b hb q => by rcases q with q | q; exact q; omega)) HS.out.2.2.2.2.2.2.1))))
            have HF6 := Lib.hid F6
            clear h6 f6 F6 HS
            go_wp2_with fail
            refine (HWn.out _ (H6.out.1.fr (by exact frA))).mono ?_
            rintro e w7 (⟨hs70, v7, rfl, rfl, h7, f7⟩ | hbr)
            · have F7 := HF6.out.comp (Fr.comp (S := fun b => b = pb) (by exact frG) f7)
              have bE7 := F7.blk H6.out.2.1 hneE
              have G7 := H6.out.2.2.2.2.comp (F7.mono (fun _ _ q => .inl q))
              have bT7 := G7.blk H5.out.2.2.2.2 (fun q => by rcases q with q | q <;> omega)
              have hR7 := H6.out.2.2.1.fr (lawX lawA _) F7 (fun b q => by have q' : b = pb := q; omega)
              obtain ⟨ac, hac, hac2⟩ := hR7.row (lawX lawA _)
              have H7 := Lib.hid (And.intro h7 (And.intro (G7.blk H5.out.2.1 (fun q => by rcases q with q | q <;> omega)) (And.intro (H5.out.2.2.1.fr G7 (fun b q => by show b < T + 1 ∨ b = Tk + 1; rcases q with q | q <;> omega)) (And.intro (H6.out.2.2.2.1.comp F7) (And.intro hac hac2)))))
              have y0 := bE7.cell 0
              have y1 := bE7.cell 1
              have y2 := bE7.cell 2
              have y3 := bE7.cell 3
              have y4 := bE7.cell 4
              have y5 := bE7.cell 5
              have y6 := bE7.cell 6
              have y7 := bE7.cell 7
              simp at y0 y1 y2 y3 y4 y5 y6 y7
              have yf := bE7.free
              have yl := bE7.lt
              have z0 := bT7.cell 0
              have z1 := bT7.cell 1
              have z2 := bT7.cell 2
              have z3 := bT7.cell 3
              have z4 := bT7.cell 4
              have z5 := bT7.cell 5
              have z6 := bT7.cell 6
              have z7 := bT7.cell 7
              simp at z0 z1 z2 z3 z4 z5 z6 z7
              have zf := bT7.free
              have zl := bT7.lt
              clear h7 f7 F7 bE7 bT7 G7 hR7 hac hac2
              have fin : Hid (∀ wf, Fr (fun b => b = T) w7 wf → QEnds pb vT L dp w (fun w' v => EVal (fun b => b < w.heap.size) w' v R.1) R.2 (.returned (.agg #[.int .i64 7, .string ⟨#[]⟩, .bool false, .int .u64 0, .slice none 0 0, .slice (some ⟨Tk, 0, none⟩) 1 1, .slice none 0 0, .slice av acc.length cv])) wf) := Lib.hid (fun wf fz => by
               have FF : Fr (fun b => b = pb) w wf := H7.out.2.2.2.1.trans fz (fun b hb q => by have q' : b = T := q; omega)
               rw [HRE.out]
               refine .inl ⟨hs70, _, rfl, ⟨_, rfl, EAt.rows (kids := [E0]) (alts := acc) (binds := []) (params := []) (kc := fun _ => eC k nm fl bi a0 n0 c0 a1 n1 c1 a2 n2 c2 a3 n3 c3) (ac := ac) (bc := fun _ => []) 7 [] RowC.nil (RowC.one (fz.blk H7.out.2.1 (fun q => by have q' : Tk = T := q; omega)) rfl (by omega)) (fun i hi => ?_) .nil (fun i h => absurd h (Nat.not_lt_zero i)) ((H7.out.2.2.2.2.1.fr fz (fun b q => by have q' : b = T := q; show b < B; omega)).mono (by decide) (fun b _ q => by have q' : b < w.heap.size := q; show b < B; omega)) (fun i h => lawA.mono (lawA.fr (H7.out.2.2.2.2.2 i h) fz (fun b q => .inl (by have q' : b = T := q; show b < B; omega))) (fun b _ q => .inl (by have q' : b < w.heap.size := q; show b < B; omega)))⟩, ⟨fz.blk H7.out.1.blk (fun q => by have q' : pb = T := q; omega), H1.out.2.2.1.toks.fr FF (fun _ q => q), H7.out.1.le, H7.out.1.sz⟩, FF⟩
               obtain rfl : i = 0 := by simp at hi; exact hi
               exact (H7.out.2.2.1.fr fz (fun b q => by have q' : b = T := q; show b < T + 1 ∨ b = Tk + 1; omega)).mono (fun b _ q => by have q' : b < w.heap.size := q; show b < T + 1 ∨ b = Tk + 1; omega))
              go_wp2
              (try simp only [Exit.inBlock, Exit.then])
              refine bodyPost_ret (v := .agg #[.int .i64 7, .string ⟨#[]⟩, .bool false, .int .u64 0, .slice none 0 0, .slice (some ⟨Tk, 0, none⟩) 1 1, .slice none 0 0, .slice av acc.length cv]) (by simp [results, Tryz.results105, go_sem, *]) rfl ?_
              exact fin.out _ (by exact frG)
            · have hb2 := hbr.back (H6.out.2.2.2.1.comp (HF6.out.comp (by exact frG)))
              obtain ⟨hne, rfl, _⟩ := hbr
              refine ⟨rfl, .inr ?_⟩
              rw [HRE.out]
              exact hb2
        · have hb2 := hbr.back (HT.out.comp (by exact frG))
          obtain ⟨hne, rfl, _⟩ := hbr
          refine ⟨rfl, .inr ?_⟩
          have e2 : RA = ([A0], s4) := by rw [← HQ.out.1, alts_bad hne]
          have e3 : R.2 = s4 := by rw [HRQ.out, e2]; simp only; rw [need_stop hne]
          rw [e3]
          exact hb2
     · have hb2 := hbr.back ((H2.out.2.2.2.2.2.comp H3.out.2).comp (by exact frG))
       obtain ⟨hne, rfl, _⟩ := hbr
       refine ⟨rfl, .inr ?_⟩
       rw [HRB.out.2.2.1 hne]
       exact hb2
   · have hb2 := hbr.back (H2.out.2.2.2.2.2.comp (by exact frG))
     obtain ⟨hne, rfl, _⟩ := hbr
     refine ⟨rfl, .inr ?_⟩
     rw [HRB.out.2.1 hne]
     exact hb2
 · have hb2 := hbr.back (Fr.of_nil H1.out.1)
   obtain ⟨hne, rfl, _⟩ := hbr
   refine ⟨rfl, .inr ?_⟩
   rw [HRB.out.1 hne]
   exact hb2
end
end Go.Proofs.YtlnmicddobgppaaGreatDoor
