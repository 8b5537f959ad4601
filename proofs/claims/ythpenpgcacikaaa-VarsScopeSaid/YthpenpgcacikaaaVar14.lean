/-
  What the document's Free tells (layer 12), at every expression. No conditions.
-/
import Derived.Test.YthpenpgcacikaaaVarG
namespace Go.Proofs.Ythpenpgcacikaaa
set_option linter.unusedSimpArgs false
set_option linter.unusedVariables false
open Go.RowKit

set_option maxRecDepth 100000 in
set_option maxHeartbeats 8000000 in
theorem ref_else {k : Nat} {nm : List UInt8} {fl : Bool} {bi : Nat} {ps : List (List UInt8)} {ks : List TE} {bs : List TB} {al : List TA} (hk1 : k ≠ 1) (hK : ∀ e ∈ ks, RefOk e) (hB : ∀ b ∈ bs, RefOk b.body) (hA : ∀ b ∈ al, RefOk b.body) : RefOk (.mk k nm fl bi ps ks bs al) := by
  obtain ⟨i0, hi, hz0, hz1, hz2⟩ := info_parts infoS
  have eo : freeE (.mk k nm fl bi ps ks bs al) = woF (woF (freeA al (freeK ks (freeB bs []))) (nmB bs)) ps := by unfold freeE; rw [if_neg hk1]
  have d1 : ((k : Int) == 1) = false := beq_false_of_ne (by omega)
  have HO := Lib.hid (And.intro eo (And.intro hK (And.intro hB hA)))
  clear eo hK hB hA hk1
  intro w cs hE hwt9
  cases hE with
  | mk kc bc ac be ae bp an hp hk hk2 hb hb1 hb2 hb3 ha ha1 ha2 ha3 =>
  have hbb : ∀ i (h : i < bs.length), BAt (fun _ => False) w (bc i) bs[i] := fun i hi => ⟨bp i, be i, hb1 i hi, hb2 i hi, hb3 i hi⟩
  have haa : ∀ i (h : i < al.length), AAt (fun _ => False) w (ac i) al[i] := fun i hi => ⟨an i, ae i, ha1 i hi, ha2 i hi, ha3 i hi⟩
  obtain ⟨a0, c0, rfl⟩ := RowC.shape hp
  obtain ⟨a1, c1, rfl⟩ := hk.shape
  obtain ⟨a2, c2, rfl⟩ := hb.shape
  obtain ⟨a3, c3, rfl⟩ := ha.shape
  have HR := Lib.hid (And.intro hp (And.intro hk (And.intro hk2 (And.intro hb (And.intro hbb (And.intro ha haa))))))
  obtain ⟨R, hR⟩ : ∃ R, freeE (.mk k nm fl bi ps ks bs al) = R := ⟨_, rfl⟩
  rw [hR]
  have hwt : wnB bs + wtK ks + wtA al + bs.length ≤ 400000 := by
    unfold wtE at hwt9
    have := wnB_eq bs
    omega
  have HE := Lib.hid (And.intro hR hwt)
  clear hp hk hk2 hb hb1 hb2 hb3 ha ha1 ha2 ha3 hbb haa hR hwt hwt9
  obtain ⟨nk, hnk⟩ : ∃ nk, ks.length = nk := ⟨_, rfl⟩
  obtain ⟨nb, hnb⟩ : ∃ nb, bs.length = nb := ⟨_, rfl⟩
  obtain ⟨na, hna⟩ : ∃ na, al.length = na := ⟨_, rfl⟩
  obtain ⟨np, hnp⟩ : ∃ np, ps.length = np := ⟨_, rfl⟩
  rw [hnk, hnb, hna, hnp]
  have HN := Lib.hid (And.intro hnk (And.intro hnb (And.intro hna hnp)))
  clear hnk hnb hna hnp
  obtain ⟨T, hT⟩ : ∃ T, w.heap.size = T := ⟨_, rfl⟩
  rw [hT]
  go_enter Try.func13, Try.ntmps13
  go_upto_region 4 with fail
  obtain ⟨W1, hW1⟩ : ∃ W1, w.alloc (.cells #[.int .i64 (k : Int), .string ⟨nm.toArray⟩, .bool fl, .int .u64 (bi : Int), .slice a0 np c0, .slice a1 nk c1, .slice a2 nb c2, .slice a3 na c3] 32) = W1 := ⟨_, rfl⟩
  rw [hW1]
  have f1 : Fr Nil w W1 := by rw [← hW1]; (repeat (first | (with_reducible exact Fr.refl _ _) | (with_reducible assumption) | (with_reducible exact Fr.of_nil (by assumption)) | (with_reducible refine Fr.drew ?_) | (with_reducible refine Fr.drewN ?_ _) | (with_reducible refine Fr.alloc ?_ _) | (with_reducible refine Fr.set ?_ _ _ (by first | (intros; omega) | (simp; done) | (simp; omega))) | (with_reducible refine Fr.via ?_ (by assumption)) | (with_reducible refine Fr.comp ?_ (by assumption))))
  have s1 : W1.heap.size = T + 1 := by rw [← hW1]; simp [hT]
  have b1 : Blk W1 T #[.int .i64 (k : Int), .string ⟨nm.toArray⟩, .bool fl, .int .u64 (bi : Int), .slice a0 np c0, .slice a1 nk c1, .slice a2 nb c2, .slice a3 na c3] 32 := by rw [← hW1]; (unfold Blk; simp (disch := first | omega | (simp; done) | (simp; omega)) only [hp_drew, hp_drewN, hp_alloc, hp_other, hp_same, hp_new, upd_cells, Option.map_some])
  have H1 := Lib.hid (And.intro f1 (And.intro b1 hT))
  have HS1 := Lib.hid s1
  clear hW1 f1 b1 hT s1
  go_wp2_with fail
  go_loopg [3, 4, 5] nb (fun g uo bo iv wr => ∃ (i : Nat) (u v : Value), u = uo ∧ v = bo ∧ g = nb - i ∧ i ≤ nb ∧ iv = .int .i64 (i : Int) ∧ Hid (wr.ownsRow W1.heap.size 9 1 u (freeB (bs.take i) []).length (strC (freeB (bs.take i) [])) ∧ wr.ownsRow W1.heap.size 9 1 v i (strC (nmB (bs.take i))) ∧ (∀ q, u.ownBlock = some q → v.ownBlock = some q → False) ∧ Fr Nil W1 wr))
  case atStart => exact ⟨0, _, _, rfl, rfl, rfl, by omega, rfl, Lib.hid ⟨by simpa [freeB, strC] using World.ownsRow_nil _ _ _ _, by simpa [nmB, strC] using World.ownsRow_nil _ _ _ _, fun q e _ => by simp [Value.ownBlock] at e, Fr.refl _ _⟩⟩
  case round =>
    obtain ⟨i, u, v, rfl, rfl, rfl, hil, rfl, HS⟩ := hrel
    have j0 : (0 : Int) ≤ (i : Int) := by omega
    have hsz := HS.out.2.2.2.size
    have hnb9 : nb ≤ 400000 := by have := HE.out.2; have := HN.out.2.1; omega
    by_cases hlt : i < nb
    · have hiL : i < bs.length := by rw [HN.out.2.1]; exact hlt
      have wk : IntKind.i64.wrap ((i : Int) + 1) = (i : Int) + 1 := by rw [IntKind.wrap_i64]; omega
      have j1 : (i : Int) < (nb : Int) := by omega
      have fw : Fr Nil w wr := H1.out.1.comp HS.out.2.2.2
      obtain ⟨b, off, rfl, _, hc⟩ := (HR.out.2.2.2.1.fr fw (fun _ q => q.elim)).at hiL
      have hBA := HR.out.2.2.2.2.1 i hiL
      obtain ⟨bn, pa, pn, pc, k', nm', fl', bi', b0, m0, d0, b1, m1, d1, b2, m2, d2, b3, m3, d3, ec⟩ := hBA.formB
      rw [ec] at hc hBA
      obtain ⟨hpr, hbo, hbn⟩ := hBA.parts
      obtain ⟨x, hx⟩ : ∃ x, bs[i].name = x := ⟨_, rfl⟩
      rw [hx] at hbn
      subst hbn
      have cT := (HS.out.2.2.2.blk H1.out.2.1 (fun q => q)).cell 6
      simp at cT
      have p0 := hc 0 _ rfl
      have p1 := hc 1 _ rfl
      have p2 := hc 2 _ rfl
      have p3 := hc 3 _ rfl
      have p4 := hc 4 _ rfl
      have p5 := hc 5 _ rfl
      have p6 := hc 6 _ rfl
      have p7 := hc 7 _ rfl
      have p8 := hc 8 _ rfl
      have p9 := hc 9 _ rfl
      simp only [Nat.add_zero] at p0
      have hS : (fun w' => w'.cell? ⟨T, 6, none⟩ = some (.slice (some ⟨b, off, none⟩) nb c2) ∧ w'.cell? ⟨b, off + i * 10, none⟩ = some (.string ⟨x.toArray⟩) ∧ w'.cell? ⟨b, off + i * 10 + 1, none⟩ = some (.slice pa pn pc) ∧ w'.cell? ⟨b, off + i * 10 + 2, none⟩ = some (.int .i64 (k' : Int)) ∧ w'.cell? ⟨b, off + i * 10 + 3, none⟩ = some (.string nm') ∧ w'.cell? ⟨b, off + i * 10 + 4, none⟩ = some (.bool fl') ∧ w'.cell? ⟨b, off + i * 10 + 5, none⟩ = some (.int .u64 (bi' : Int)) ∧ w'.cell? ⟨b, off + i * 10 + 6, none⟩ = some (.slice b0 m0 d0) ∧ w'.cell? ⟨b, off + i * 10 + 7, none⟩ = some (.slice b1 m1 d1) ∧ w'.cell? ⟨b, off + i * 10 + 8, none⟩ = some (.slice b2 m2 d2) ∧ w'.cell? ⟨b, off + i * 10 + 9, none⟩ = some (.slice b3 m3 d3)) wr := ⟨cT, p0, p1, p2, p3, p4, p5, p6, p7, p8, p9⟩
      have hlb : b < wr.heap.size := World.block_lt_of_cell? _ _ p0
      have hlT : T < wr.heap.size := World.block_lt_of_cell? _ _ cT
      have HK : Hid (∀ w', Fr Nil wr w' → w'.cell? ⟨T, 6, none⟩ = some (.slice (some ⟨b, off, none⟩) nb c2) ∧ w'.cell? ⟨b, off + i * 10, none⟩ = some (.string ⟨x.toArray⟩) ∧ w'.cell? ⟨b, off + i * 10 + 1, none⟩ = some (.slice pa pn pc) ∧ w'.cell? ⟨b, off + i * 10 + 2, none⟩ = some (.int .i64 (k' : Int)) ∧ w'.cell? ⟨b, off + i * 10 + 3, none⟩ = some (.string nm') ∧ w'.cell? ⟨b, off + i * 10 + 4, none⟩ = some (.bool fl') ∧ w'.cell? ⟨b, off + i * 10 + 5, none⟩ = some (.int .u64 (bi' : Int)) ∧ w'.cell? ⟨b, off + i * 10 + 6, none⟩ = some (.slice b0 m0 d0) ∧ w'.cell? ⟨b, off + i * 10 + 7, none⟩ = some (.slice b1 m1 d1) ∧ w'.cell? ⟨b, off + i * 10 + 8, none⟩ = some (.slice b2 m2 d2) ∧ w'.cell? ⟨b, off + i * 10 + 9, none⟩ = some (.slice b3 m3 d3)) := Lib.hid (fun w' f => ⟨f.cell hS.1 (fun q => q), f.cell hS.2.1 (fun q => q), f.cell hS.2.2.1 (fun q => q), f.cell hS.2.2.2.1 (fun q => q), f.cell hS.2.2.2.2.1 (fun q => q), f.cell hS.2.2.2.2.2.1 (fun q => q), f.cell hS.2.2.2.2.2.2.1 (fun q => q), f.cell hS.2.2.2.2.2.2.2.1 (fun q => q), f.cell hS.2.2.2.2.2.2.2.2.1 (fun q => q), f.cell hS.2.2.2.2.2.2.2.2.2.1 (fun q => q), f.cell hS.2.2.2.2.2.2.2.2.2.2 (fun q => q)⟩)
      obtain ⟨F, hF⟩ : ∃ F, freeB (bs.take i) [] = F := ⟨_, rfl⟩
      have hstep := freeB_take hiL []
      rw [hF] at hstep HS
      have hFl : F.length ≤ 400000 := by
        rw [← hF]
        have := freeB_len (bs.take i) []
        have := wnB_take_le bs i
        have := HE.out.2
        simp at *
        omega
      have hbl : (bs[i].params.length + wtE bs[i].body) ≤ 400000 := by
        have := wnB_take hiL
        have := wnB_take_le bs (i + 1)
        have := HE.out.2
        omega
      obtain ⟨ua, uc, e1⟩ := owns_shape HS.out.1
      subst e1
      obtain ⟨M, hM⟩ : ∃ M, F.length = M := ⟨_, rfl⟩
      have hrow : RowS (fun b => b < W1.heap.size) wr (.slice ua M uc) F := by
        have h := owns_row HS.out.1
        rw [hM] at h
        exact h
      have HQ := Lib.hid (And.intro hx (And.intro hstep (And.intro hFl (And.intro hbl (And.intro (RowS.fr hpr fw (fun _ q => q.elim)) (And.intro (hbo.fr fw (fun _ q => q.elim)) (And.intro hrow hM)))))))
      rw [hM]
      clear hx hstep hFl hbl hpr hbo hrow hF hS hc ec hBA fw hM
      go_upto_region 7 with fail
      go_region_held3 (fun w' => w'.cell? ⟨T, 6, none⟩ = some (.slice (some ⟨b, off, none⟩) nb c2) ∧ w'.cell? ⟨b, off + i * 10, none⟩ = some (.string ⟨x.toArray⟩) ∧ w'.cell? ⟨b, off + i * 10 + 1, none⟩ = some (.slice pa pn pc) ∧ w'.cell? ⟨b, off + i * 10 + 2, none⟩ = some (.int .i64 (k' : Int)) ∧ w'.cell? ⟨b, off + i * 10 + 3, none⟩ = some (.string nm') ∧ w'.cell? ⟨b, off + i * 10 + 4, none⟩ = some (.bool fl') ∧ w'.cell? ⟨b, off + i * 10 + 5, none⟩ = some (.int .u64 (bi' : Int)) ∧ w'.cell? ⟨b, off + i * 10 + 6, none⟩ = some (.slice b0 m0 d0) ∧ w'.cell? ⟨b, off + i * 10 + 7, none⟩ = some (.slice b1 m1 d1) ∧ w'.cell? ⟨b, off + i * 10 + 8, none⟩ = some (.slice b2 m2 d2) ∧ w'.cell? ⟨b, off + i * 10 + 9, none⟩ = some (.slice b3 m3 d3)) (first | (with_reducible exact qc) | (with_reducible exact qb) | (with_reducible exact qa) | (with_reducible refine HK.out _ ?_; (repeat (first | (with_reducible exact Fr.refl _ _) | (with_reducible assumption) | (with_reducible exact Fr.of_nil (by assumption)) | (with_reducible refine Fr.drew ?_) | (with_reducible refine Fr.drewN ?_ _) | (with_reducible refine Fr.alloc ?_ _) | (with_reducible refine Fr.set ?_ _ _ (by first | (intros; omega) | (simp; done) | (simp; omega))) | (with_reducible refine Fr.via ?_ (by assumption)) | (with_reducible refine Fr.comp ?_ (by assumption)))))) (first
        | (go_at_call 13; refine (HO.out.2.2.1 _ (List.getElem_mem hiL) _ _ (HQ.out.2.2.2.2.2.1.fr (S := Nil) (by (repeat (first | (with_reducible exact Fr.refl _ _) | (with_reducible assumption) | (with_reducible exact Fr.of_nil (by assumption)) | (with_reducible refine Fr.drew ?_) | (with_reducible refine Fr.drewN ?_ _) | (with_reducible refine Fr.alloc ?_ _) | (with_reducible refine Fr.set ?_ _ _ (by first | (intros; omega) | (simp; done) | (simp; omega))) | (with_reducible refine Fr.via ?_ (by assumption)) | (with_reducible refine Fr.comp ?_ (by assumption))))) (fun _ q => q.elim)) (by have := HQ.out.2.2.2.1; omega)).mono ?_; rintro e wa ⟨va, rfl, owna, fa⟩; have fa' : Fr Nil wr wa := Fr.comp (S := Nil) (by (repeat (first | (with_reducible exact Fr.refl _ _) | (with_reducible assumption) | (with_reducible exact Fr.of_nil (by assumption)) | (with_reducible refine Fr.drew ?_) | (with_reducible refine Fr.drewN ?_ _) | (with_reducible refine Fr.alloc ?_ _) | (with_reducible refine Fr.set ?_ _ _ (by first | (intros; omega) | (simp; done) | (simp; omega))) | (with_reducible refine Fr.via ?_ (by assumption)) | (with_reducible refine Fr.comp ?_ (by assumption))))) fa; have qa := HK.out wa fa'; obtain ⟨xa, xc, e2⟩ := owns_shape owna; subst e2; have HA := Lib.hid (And.intro owna fa'); clear owna fa fa')
        | (go_at_call 21; refine (without_any (owns_row HA.out.1) (RowS.fr HQ.out.2.2.2.2.1 HA.out.2 (fun _ q => q.elim)) (by have := freeE_len bs[i].body; have := HQ.out.2.2.2.1; omega)).mono ?_; rintro e wb ⟨vb, rfl, ownb, fb⟩; have fb' := HA.out.2.comp fb; have qb := HK.out wb fb'; obtain ⟨ya, yc, e3⟩ := owns_shape ownb; subst e3; have HB2 := Lib.hid (And.intro ownb fb'); clear ownb fb fb')
        | (go_at_call 20; refine (join_any (RowS.fr HQ.out.2.2.2.2.2.2.1 HB2.out.2 (fun _ q => q.elim)) (owns_row HB2.out.1) (by have := woF_len (freeE bs[i].body) bs[i].params; have := freeE_len bs[i].body; have := HQ.out.2.2.2.1; have := HQ.out.2.2.1; omega)).mono ?_; rintro e wc ⟨vc, rfl, ownc, fc⟩; have fc' := HB2.out.2.comp fc; have qc := HK.out wc fc'; obtain ⟨za, zc, e4⟩ := owns_shape ownc; subst e4; have HC2 := Lib.hid (And.intro ownc (And.intro fc' fc)); clear ownc fc fc'))
      obtain ⟨cT2, r0, -⟩ := HK.out wc HC2.out.2.1
      have hszc := HC2.out.2.1.size
      have hszb := HB2.out.2.size
      have hszbc := HC2.out.2.2.size
      have HBD := Lib.hid (owns_fr HS.out.2.1 HC2.out.2.1)
      clear qa qb qc cT p0 p1 p2 p3 p4 p5 p6 p7 p8 p9 HA
      go_wp2_with (first
        | (at_builtin; refine wpList_push rfl (.tmp 38) (.tmp 45) 25 rfl W1.heap.size 9 i0 (.string ⟨#[]⟩) 1 16 Try.underlying25 hi hz0 hz1 hz2 rfl (by decide) v i (strC (nmB (bs.take i))) rfl HBD.out [.string ⟨x.toArray⟩] rfl rfl (by simp [Value.oneCell']) (by unfold maxLen; omega) (by omega) (by omega) ?_; intro v' w3 hown3 f3 hk3; have HO3 := Lib.hid (And.intro hown3 (And.intro f3 hk3)); clear hown3 f3 hk3)
        | fail)
      have hlv := HS.out.2.1.lt
      have hlu := HC2.out.1.lt
      go_roundg (nb - (i + 1))
      case rel =>
        refine ⟨i + 1, _, v', rfl, rfl, rfl, by omega, by simp, Lib.hid ⟨?_, ?_, fun q e1 e2 => ?_, Fr.trans (S := Nil) (HS.out.2.2.2.comp HC2.out.2.1) HO3.out.2.1 (fun q hq e => by have := (hlv q e).1; omega)⟩⟩
        · rw [HQ.out.2.1]
          exact owns_base (owns_frS HC2.out.1 HO3.out.2.1 (fun q e1 e2 => by have := (hlu q e1).1; have := (hlv q e2).2; omega)) (by omega)
        · rw [nmB_take hiL, strC_snoc, HQ.out.1]
          exact HO3.out.1
        · have h1 := hlu q e1
          rcases HO3.out.2.2 q e2 with z | z
          · have := (hlv q z).2
            omega
          · omega
      case measure => omega
    · have j1 : ¬ (i : Int) < (nb : Int) := by omega
      obtain rfl : nb = i := by omega
      obtain ⟨V, hV⟩ : ∃ V, V = wr := ⟨_, rfl⟩
      subst hV
      have HL1 : Hid (V.ownsRow W1.heap.size 9 1 u (freeB bs []).length (strC (freeB bs [])) ∧ V.ownsRow W1.heap.size 9 1 v nb (strC (nmB bs)) ∧ Fr Nil W1 V) := Lib.hid (by
        have h := HS.out
        rw [List.take_of_length_le (by rw [HN.out.2.1]; exact Nat.le_refl _)] at h
        exact ⟨h.1, h.2.1, h.2.2.2⟩)
      have hfw := H1.out.1.comp HL1.out.2.2
      have cT : ∀ (w' : World), Fr Nil V w' → w'.cell? ⟨T, 4, none⟩ = some (.slice a0 np c0) ∧ w'.cell? ⟨T, 5, none⟩ = some (.slice a1 nk c1) ∧ w'.cell? ⟨T, 6, none⟩ = some (.slice a2 nb c2) ∧ w'.cell? ⟨T, 7, none⟩ = some (.slice a3 na c3) := fun w' f => by
        have b := (HL1.out.2.2.comp f).blk H1.out.2.1 (fun q => q)
        exact ⟨by have := b.cell 4; simpa using this, by have := b.cell 5; simpa using this, by have := b.cell 6; simpa using this, by have := b.cell 7; simpa using this⟩
      have HCT := Lib.hid cT
      have HFW := Lib.hid hfw
      have hnk9 : nk ≤ 9223372036854775807 := by
        obtain ⟨_, _, e, q1, q2, _⟩ := HR.out.2.1
        have := HN.out.1
        unfold maxLen at q2
        omega
      have hna9 : na ≤ 9223372036854775807 := by
        obtain ⟨_, _, e, q1, q2, _⟩ := HR.out.2.2.2.2.2.1
        have := HN.out.2.2.1
        unfold maxLen at q2
        omega
      have hVT : T < V.heap.size := by have := HS1.out; omega
      obtain ⟨t4, t5, t6, t7⟩ := HCT.out V (Fr.refl _ _)
      clear HS cT hfw
      go_wp2_with fail
      go_loopg [3, 6] nk (fun g uo iv wr => ∃ (i : Nat) (u2 : Value), u2 = uo ∧ g = nk - i ∧ i ≤ nk ∧ iv = .int .i64 (i : Int) ∧ Hid (wr.ownsRow W1.heap.size 9 1 u2 (freeK (ks.take i) (freeB bs [])).length (strC (freeK (ks.take i) (freeB bs []))) ∧ Fr Nil V wr))
      case atStart => exact ⟨0, _, rfl, rfl, by omega, rfl, Lib.hid ⟨by simpa [freeK] using HL1.out.1, Fr.refl _ _⟩⟩
      case round =>
        clear t4 t5 t6 t7
        obtain ⟨i, u2, rfl, rfl, hil, rfl, HS⟩ := hrel
        have j0 : (0 : Int) ≤ (i : Int) := by omega
        have hsz2 := HS.out.2.size
        obtain ⟨t4, t5, t6, t7⟩ := HCT.out wr HS.out.2
        by_cases hlt : i < nk
        · have hiL : i < ks.length := by rw [HN.out.1]; exact hlt
          have wk : IntKind.i64.wrap ((i : Int) + 1) = (i : Int) + 1 := by rw [IntKind.wrap_i64]; omega
          have j1 : (i : Int) < (nk : Int) := by omega
          have fw : Fr Nil w wr := HFW.out.comp HS.out.2
          obtain ⟨b, off, rfl, _, hc⟩ := (HR.out.2.1.fr fw (fun _ q => q.elim)).at hiL
          have hEA := (HR.out.2.2.1 i hiL).fr fw (fun _ q => q.elim)
          obtain ⟨k', nm', fl', bi', b0, m0, d0, b1, m1, d1, b2, m2, d2, b3, m3, d3, ec⟩ := hEA.formE
          rw [ec] at hc hEA
          have p0 := hc 0 _ rfl
          have p1 := hc 1 _ rfl
          have p2 := hc 2 _ rfl
          have p3 := hc 3 _ rfl
          have p4 := hc 4 _ rfl
          have p5 := hc 5 _ rfl
          have p6 := hc 6 _ rfl
          have p7 := hc 7 _ rfl
          simp only [Nat.add_zero] at p0
          obtain ⟨F, hF⟩ : ∃ F, freeK (ks.take i) (freeB bs []) = F := ⟨_, rfl⟩
          have hstep := freeK_take hiL (freeB bs [])
          rw [hF] at hstep HS
          have hFl : F.length ≤ 400000 := by
            rw [← hF]
            have := freeK_len (ks.take i) (freeB bs [])
            have := freeB_len bs []
            have := wtK_take_le ks i
            have := HE.out.2
            simp only [List.length_nil] at *
            omega
          have hbl : wtE ks[i] ≤ 400000 := by
            have := wtK_take hiL
            have := wtK_take_le ks (i + 1)
            have := HE.out.2
            omega
          obtain ⟨ua, uc, e1⟩ := owns_shape HS.out.1
          subst e1
          obtain ⟨M, hM⟩ : ∃ M, F.length = M := ⟨_, rfl⟩
          have hrow : RowS (fun b => b < W1.heap.size) wr (.slice ua M uc) F := by
            have h := owns_row HS.out.1
            rw [hM] at h
            exact h
          have HQ := Lib.hid (And.intro hstep (And.intro hFl (And.intro hbl (And.intro hEA hrow))))
          rw [hM]
          clear hstep hFl hbl hEA hrow hF hc ec fw hM
          go_wp2_with fail
          refine (HO.out.2.1 _ (List.getElem_mem hiL) _ _ HQ.out.2.2.2.1 HQ.out.2.2.1).mono ?_
          rintro e wa ⟨va, rfl, owna, fa⟩
          obtain ⟨xa, xc, e2⟩ := owns_shape owna
          subst e2
          have HA := Lib.hid (And.intro owna fa)
          clear owna fa p0 p1 p2 p3 p4 p5 p6 p7
          go_wp2_with fail
          refine (join_any (RowS.fr HQ.out.2.2.2.2 HA.out.2 (fun _ q => q.elim)) (owns_row HA.out.1) (by have := freeE_len ks[i]; have := HQ.out.2.1; have := HQ.out.2.2.1; omega)).mono ?_
          rintro e wc ⟨vc, rfl, ownc, fc⟩
          have HC2 := Lib.hid (And.intro ownc (And.intro (HA.out.2.comp fc) HA.out.2.size))
          obtain ⟨za, zc, e4⟩ := owns_shape ownc
          subst e4
          clear ownc fc t4 t5 t6 t7
          go_wp2
          go_roundg (nk - (i + 1))
          case rel => exact ⟨i + 1, _, rfl, rfl, by omega, by simp, Lib.hid ⟨by rw [HQ.out.1]; exact owns_base HC2.out.1 (by have := HC2.out.2.2; omega), HS.out.2.comp HC2.out.2.1⟩⟩
          case measure => omega
        · have j1 : ¬ (i : Int) < (nk : Int) := by omega
          obtain rfl : nk = i := by omega
          obtain ⟨V2, hV⟩ : ∃ V2, V2 = wr := ⟨_, rfl⟩
          subst hV
          have HL2 : Hid (V2.ownsRow W1.heap.size 9 1 u2 (freeK ks (freeB bs [])).length (strC (freeK ks (freeB bs []))) ∧ Fr Nil V V2) := Lib.hid (by
            have h := HS.out
            rw [List.take_of_length_le (by rw [HN.out.1]; exact Nat.le_refl _)] at h
            exact h)
          clear HS
          go_wp2_with fail
          go_loopg [3, 7] na (fun g uo iv wr => ∃ (i : Nat) (u3 : Value), u3 = uo ∧ g = na - i ∧ i ≤ na ∧ iv = .int .i64 (i : Int) ∧ Hid (wr.ownsRow W1.heap.size 9 1 u3 (freeA (al.take i) (freeK ks (freeB bs []))).length (strC (freeA (al.take i) (freeK ks (freeB bs [])))) ∧ Fr Nil V2 wr))
          case atStart => exact ⟨0, _, rfl, rfl, by omega, rfl, Lib.hid ⟨by simpa [freeA] using HL2.out.1, Fr.refl _ _⟩⟩
          case round =>
            clear t4 t5 t6 t7
            obtain ⟨i, u3, rfl, rfl, hil3, rfl, HS⟩ := hrel
            have j0 : (0 : Int) ≤ (i : Int) := by omega
            have hsz3 := HS.out.2.size
            obtain ⟨t4, t5, t6, t7⟩ := HCT.out wr (HL2.out.2.comp HS.out.2)
            by_cases hlt : i < na
            · have hiL : i < al.length := by rw [HN.out.2.2.1]; exact hlt
              have wk : IntKind.i64.wrap ((i : Int) + 1) = (i : Int) + 1 := by rw [IntKind.wrap_i64]; omega
              have j1 : (i : Int) < (na : Int) := by omega
              have fw : Fr Nil w wr := (HFW.out.comp HL2.out.2).comp HS.out.2
              obtain ⟨b, off, rfl, _, hc⟩ := (HR.out.2.2.2.2.2.1.fr fw (fun _ q => q.elim)).at hiL
              have hAA := lawA.fr (HR.out.2.2.2.2.2.2 i hiL) fw (fun _ q => q.elim)
              obtain ⟨tk, tn, tf, tb, pa, pn, pc, k', nm', fl', bi', b0, m0, d0, b1, m1, d1, b2, m2, d2, b3, m3, d3, ec⟩ := hAA.formA
              rw [ec] at hc hAA
              obtain ⟨hnr, hbo, hbn, htk⟩ := hAA.parts
              obtain ⟨x, hx⟩ : ∃ x, al[i].name = x := ⟨_, rfl⟩
              rw [hx] at hbn
              subst hbn
              have p0 := hc 0 _ rfl
              have p1 := hc 1 _ rfl
              have p2 := hc 2 _ rfl
              have p3 := hc 3 _ rfl
              have p4 := hc 4 _ rfl
              have p5 := hc 5 _ rfl
              have p6 := hc 6 _ rfl
              have p7 := hc 7 _ rfl
              have p8 := hc 8 _ rfl
              have p9 := hc 9 _ rfl
              have p10 := hc 10 _ rfl
              have p11 := hc 11 _ rfl
              have p12 := hc 12 _ rfl
              simp only [Nat.add_zero] at p0
              obtain ⟨F, hF⟩ : ∃ F, freeA (al.take i) (freeK ks (freeB bs [])) = F := ⟨_, rfl⟩
              have hstep := freeA_take hiL (freeK ks (freeB bs []))
              rw [hF] at hstep HS
              have hFl : F.length ≤ 400000 := by
                rw [← hF]
                have := freeA_len (al.take i) (freeK ks (freeB bs []))
                have := freeK_len ks (freeB bs [])
                have := freeB_len bs []
                have := wtA_take_le al i
                have := HE.out.2
                simp only [List.length_nil] at *
                omega
              have hbl : wtE al[i].body ≤ 400000 := by
                have := wtA_take hiL
                have := wtA_take_le al (i + 1)
                have := HE.out.2
                omega
              obtain ⟨ua, uc, e1⟩ := owns_shape HS.out.1
              subst e1
              obtain ⟨M, hM⟩ : ∃ M, F.length = M := ⟨_, rfl⟩
              have hrow : RowS (fun b => b < W1.heap.size) wr (.slice ua M uc) F := by
                have h := owns_row HS.out.1
                rw [hM] at h
                exact h
              rw [hM]
              by_cases hk2 : tk = 2
              · have hTr : T < wr.heap.size := by omega
                have hlb : b < wr.heap.size := World.block_lt_of_cell? _ _ p0
                have hD : al[i].binders = [x] := by unfold TA.binders; rw [if_pos (by omega), hx]
                rw [hD] at hstep
                subst hk2
                have HQ := Lib.hid (And.intro hstep (And.intro hFl (And.intro hbl (And.intro hbo hrow))))
                clear hstep hFl hbl hrow hF hc ec fw hM hnr hbo hx htk hAA hD
                go_wp2_with fail
                obtain ⟨wx, hwx⟩ : ∃ wx, wr.alloc (.cells #[.string ⟨x.toArray⟩] 9) = wx := ⟨_, rfl⟩
                have hfx : Fr Nil wr wx := by rw [← hwx]; (repeat (first | (with_reducible exact Fr.refl _ _) | (with_reducible assumption) | (with_reducible exact Fr.of_nil (by assumption)) | (with_reducible refine Fr.drew ?_) | (with_reducible refine Fr.drewN ?_ _) | (with_reducible refine Fr.alloc ?_ _) | (with_reducible refine Fr.set ?_ _ _ (by first | (intros; omega) | (simp; done) | (simp; omega))) | (with_reducible refine Fr.via ?_ (by assumption)) | (with_reducible refine Fr.comp ?_ (by assumption))))
                have hrx : RowS (fun _ => False) wx (.slice (some ⟨wr.heap.size, 0, none⟩) 1 1) [x] := RowS.single (hwx ▸ Blk.new _ _ _) (fun q => q)
                rw [hwx]
                have HX := Lib.hid (And.intro hfx hrx)
                clear hwx hfx hrx
                refine (HO.out.2.2.2 _ (List.getElem_mem hiL) _ _ (HQ.out.2.2.2.1.fr HX.out.1 (fun _ q => q.elim)) HQ.out.2.2.1).mono ?_
                rintro e wa ⟨va, rfl, owna, fa⟩
                obtain ⟨xa, xc, e2⟩ := owns_shape owna
                subst e2
                have HA := Lib.hid (And.intro owna fa)
                clear owna fa p0 p1 p2 p3 p4 p5 p6 p7 p8 p9 p10 p11 p12
                go_wp2_with fail
                refine (without_any (owns_row HA.out.1) (RowS.fr HX.out.2 HA.out.2 (fun _ q => q.elim)) (by have := freeE_len al[i].body; have := HQ.out.2.2.1; omega)).mono ?_
                rintro e wb ⟨vb, rfl, ownb, fb⟩
                obtain ⟨ya, yc, e3⟩ := owns_shape ownb
                subst e3
                have HB2 := Lib.hid (And.intro ownb (HX.out.1.comp (HA.out.2.comp fb)))
                clear ownb fb
                go_wp2_with fail
                refine (join_any (RowS.fr HQ.out.2.2.2.2 HB2.out.2 (fun _ q => q.elim)) (owns_row HB2.out.1) (by have := woF_len (freeE al[i].body) [x]; have := freeE_len al[i].body; have := HQ.out.2.1; have := HQ.out.2.2.1; omega)).mono ?_
                rintro e wc ⟨vc, rfl, ownc, fc⟩
                have HC2 := Lib.hid (And.intro ownc (And.intro (HB2.out.2.comp fc) HB2.out.2.size))
                obtain ⟨za, zc, e4⟩ := owns_shape ownc
                subst e4
                clear ownc fc t4 t5 t6 t7
                go_wp2
                go_roundg (na - (i + 1))
                case rel => exact ⟨i + 1, _, rfl, rfl, by omega, by simp, Lib.hid ⟨by rw [HQ.out.1]; exact owns_base HC2.out.1 (by have := HC2.out.2.2; omega), HS.out.2.comp HC2.out.2.1⟩⟩
                case measure => omega
              · have hD : al[i].binders = al[i].names := by unfold TA.binders; rw [if_neg (by omega)]
                rw [hD] at hstep
                have d2 : ((tk : Int) == 2) = false := beq_false_of_ne (by omega)
                have HQ := Lib.hid (And.intro hstep (And.intro hFl (And.intro hbl (And.intro hbo hrow))))
                have HX := Lib.hid (And.intro (Fr.refl Nil wr) hnr)
                clear hstep hFl hbl hrow hF hc ec fw hM hnr hbo hx htk hAA hD hk2
                go_wp2_with fail
                refine (HO.out.2.2.2 _ (List.getElem_mem hiL) _ _ (HQ.out.2.2.2.1.fr HX.out.1 (fun _ q => q.elim)) HQ.out.2.2.1).mono ?_
                rintro e wa ⟨va, rfl, owna, fa⟩
                obtain ⟨xa, xc, e2⟩ := owns_shape owna
                subst e2
                have HA := Lib.hid (And.intro owna fa)
                clear owna fa p0 p1 p2 p3 p4 p5 p6 p7 p8 p9 p10 p11 p12
                go_wp2_with fail
                refine (without_any (owns_row HA.out.1) (RowS.fr HX.out.2 HA.out.2 (fun _ q => q.elim)) (by have := freeE_len al[i].body; have := HQ.out.2.2.1; omega)).mono ?_
                rintro e wb ⟨vb, rfl, ownb, fb⟩
                obtain ⟨ya, yc, e3⟩ := owns_shape ownb
                subst e3
                have HB2 := Lib.hid (And.intro ownb (HX.out.1.comp (HA.out.2.comp fb)))
                clear ownb fb
                go_wp2_with fail
                refine (join_any (RowS.fr HQ.out.2.2.2.2 HB2.out.2 (fun _ q => q.elim)) (owns_row HB2.out.1) (by have := woF_len (freeE al[i].body) al[i].names; have := freeE_len al[i].body; have := HQ.out.2.1; have := HQ.out.2.2.1; omega)).mono ?_
                rintro e wc ⟨vc, rfl, ownc, fc⟩
                have HC2 := Lib.hid (And.intro ownc (And.intro (HB2.out.2.comp fc) HB2.out.2.size))
                obtain ⟨za, zc, e4⟩ := owns_shape ownc
                subst e4
                clear ownc fc t4 t5 t6 t7
                go_wp2
                go_roundg (na - (i + 1))
                case rel => exact ⟨i + 1, _, rfl, rfl, by omega, by simp, Lib.hid ⟨by rw [HQ.out.1]; exact owns_base HC2.out.1 (by have := HC2.out.2.2; omega), HS.out.2.comp HC2.out.2.1⟩⟩
                case measure => omega
            · have j1 : ¬ (i : Int) < (na : Int) := by omega
              obtain rfl : na = i := by omega
              have HL3 : Hid (wr.ownsRow W1.heap.size 9 1 u3 (freeA al (freeK ks (freeB bs []))).length (strC (freeA al (freeK ks (freeB bs [])))) ∧ Fr Nil V2 wr) := Lib.hid (by
                have h := HS.out
                rw [List.take_of_length_le (by rw [HN.out.2.2.1]; exact Nat.le_refl _)] at h
                exact h)
              have hF9 : (freeA al (freeK ks (freeB bs []))).length ≤ 400000 := by
                have := freeA_len al (freeK ks (freeB bs []))
                have := freeK_len ks (freeB bs [])
                have := freeB_len bs []
                have := HE.out.2
                simp only [List.length_nil] at *
                omega
              have hR : R = woF (woF (freeA al (freeK ks (freeB bs []))) (nmB bs)) ps := by rw [← HE.out.1, HO.out.1]
              obtain ⟨F, hF⟩ : ∃ F, freeA al (freeK ks (freeB bs [])) = F := ⟨_, rfl⟩
              rw [hF] at HL3 hF9 hR
              obtain ⟨ua, uc, e1⟩ := owns_shape HL3.out.1
              subst e1
              obtain ⟨va, vc, e2⟩ := owns_shape HL1.out.2.1
              subst e2
              have hbrow : RowS (fun b => b < W1.heap.size) V (.slice va nb vc) (nmB bs) := by
                have hl : (nmB bs).length = nb := by simp [nmB, HN.out.2.1]
                have h := HL1.out.2.1
                rw [← hl] at h
                have h := owns_row h
                rw [hl] at h
                exact h
              have hprow : RowS (fun _ => False) w (.slice a0 np c0) ps := by
                have h := HR.out.1
                rw [HN.out.2.2.2] at h
                exact h
              have HK : Hid (∀ w', Fr Nil wr w' → w'.cell? ⟨T, 4, none⟩ = some (.slice a0 np c0)) := Lib.hid (fun w' f => (HCT.out w' ((HL2.out.2.comp HL3.out.2).comp f)).1)
              have hVR := HL2.out.2.comp HL3.out.2
              have hTr : T < wr.heap.size := by omega
              obtain ⟨nF, hnF⟩ : ∃ n, F.length = n := ⟨_, rfl⟩
              obtain ⟨G, hG⟩ : ∃ G, woF F (nmB bs) = G := ⟨_, rfl⟩
              obtain ⟨nG, hnG⟩ : ∃ n, G.length = n := ⟨_, rfl⟩
              have hG9 : G.length ≤ 1000000 := by have := woF_len F (nmB bs); rw [hG] at this; omega
              rw [hG] at hR
              obtain ⟨nR, hnR⟩ : ∃ n, R.length = n := ⟨_, rfl⟩
              rw [hnF]
              have hA1 : ∀ w', Fr Nil wr w' → Calls Try.prog 21 #[.slice ua nF uc, .slice va nb vc] w' fun r w2 => ∃ xa xc, r = .returned (.slice xa nG xc) ∧ RowS (fun _ => False) w2 (.slice xa nG xc) G ∧ Fr Nil w' w2 := fun w' f => by
                have h := owns_row (owns_fr HL3.out.1 f)
                rw [hnF] at h
                refine (without_any h (RowS.fr hbrow (hVR.comp f) (fun _ q => q.elim)) (by omega)).mono ?_
                rintro e w2 ⟨v2, rfl, own, f2⟩
                rw [hG] at own
                obtain ⟨xa, xc, e2⟩ := owns_shape own
                subst e2
                have h2 := RowS.nocare (owns_row own)
                rw [hnG] at h2 ⊢
                exact ⟨xa, xc, rfl, h2, f2⟩
              have hA2 : ∀ w' xa xc, RowS (fun _ => False) w' (.slice xa nG xc) G → Fr Nil wr w' → Calls Try.prog 21 #[.slice xa nG xc, .slice a0 np c0] w' fun r w2 => ∃ ya yc, r = .returned (.slice ya nR yc) ∧ w2.ownsRow w'.heap.size 9 1 (.slice ya nR yc) nR (strC R) ∧ Fr Nil w' w2 := fun w' xa xc h f => by
                refine (without_any h (RowS.fr hprow (HFW.out.comp (hVR.comp f)) (fun _ q => q.elim)) hG9).mono ?_
                rintro e w2 ⟨v2, rfl, own, f2⟩
                rw [← hR, hnR] at own
                obtain ⟨xa, xc, e2⟩ := owns_shape own
                subst e2
                exact ⟨xa, xc, rfl, own, f2⟩
              have HA1 := Lib.hid hA1
              have HA2 := Lib.hid hA2
              have HFWR := Lib.hid (HFW.out.comp hVR)
              have HNR := Lib.hid hnR
              have hwT : w.heap.size ≤ wr.heap.size := HFWR.out.size
              clear HS hF9 hR hbrow hprow hF hVR hA1 hA2 hnF hG hnG hG9 hnR
              go_upto_region 20 with fail
              go_region_held3 (fun w' => w'.cell? ⟨T, 4, none⟩ = some (.slice a0 np c0)) (first | (with_reducible exact qb) | (with_reducible exact qa) | (with_reducible refine HK.out _ ?_; (repeat (first | (with_reducible exact Fr.refl _ _) | (with_reducible assumption) | (with_reducible exact Fr.of_nil (by assumption)) | (with_reducible refine Fr.drew ?_) | (with_reducible refine Fr.drewN ?_ _) | (with_reducible refine Fr.alloc ?_ _) | (with_reducible refine Fr.set ?_ _ _ (by first | (intros; omega) | (simp; done) | (simp; omega))) | (with_reducible refine Fr.via ?_ (by assumption)) | (with_reducible refine Fr.comp ?_ (by assumption)))))) (first
                | (go_at_call 21; refine (HA2.out _ _ _ HA.out.1 HA.out.2).mono ?_; rintro e wb ⟨ya, yc, rfl, ownb, fb⟩; have fb' := HA.out.2.comp fb; have qb := HK.out wb fb'; have HB2 := Lib.hid (And.intro ownb (And.intro fb' HA.out.2.size)); clear ownb fb fb')
                | (go_at_call 21; refine (HA1.out _ (by (repeat (first | (with_reducible exact Fr.refl _ _) | (with_reducible assumption) | (with_reducible exact Fr.of_nil (by assumption)) | (with_reducible refine Fr.drew ?_) | (with_reducible refine Fr.drewN ?_ _) | (with_reducible refine Fr.alloc ?_ _) | (with_reducible refine Fr.set ?_ _ _ (by first | (intros; omega) | (simp; done) | (simp; omega))) | (with_reducible refine Fr.via ?_ (by assumption)) | (with_reducible refine Fr.comp ?_ (by assumption)))))).mono ?_; rintro e wa ⟨xa, xc, rfl, ra, fa⟩; have fa' : Fr Nil wr wa := Fr.comp (S := Nil) (by (repeat (first | (with_reducible exact Fr.refl _ _) | (with_reducible assumption) | (with_reducible exact Fr.of_nil (by assumption)) | (with_reducible refine Fr.drew ?_) | (with_reducible refine Fr.drewN ?_ _) | (with_reducible refine Fr.alloc ?_ _) | (with_reducible refine Fr.set ?_ _ _ (by first | (intros; omega) | (simp; done) | (simp; omega))) | (with_reducible refine Fr.via ?_ (by assumption)) | (with_reducible refine Fr.comp ?_ (by assumption))))) fa; have qa := HK.out wa fa'; have HA := Lib.hid (And.intro ra fa'); clear ra fa fa'))
              go_wp2
              go_ret
              refine ⟨_, rfl, ?_, HFWR.out.comp HB2.out.2.1⟩
              rw [HNR.out]
              exact owns_base HB2.out.1 (by have := HB2.out.2.2; omega)
theorem ref_all : ∀ (m : Nat) (e : TE), szE e ≤ m → RefOk e := by
  intro m
  induction m with
  | zero =>
    intro e he
    cases e with
    | mk k nm fl bi ps ks bs al =>
      have e1 : szE (.mk k nm fl bi ps ks bs al) = 1 + szK ks + szB bs + szA al := rfl
      omega
  | succ m ih =>
    intro e he
    cases e with
    | mk k nm fl bi ps ks bs al =>
      have e1 : szE (.mk k nm fl bi ps ks bs al) = 1 + szK ks + szB bs + szA al := rfl
      by_cases h1 : k = 1
      · subst h1
        exact ref_var
      · exact ref_else h1 (fun e h => ih e (by have := mem_szK h; omega)) (fun b h => ih b.body (by have := mem_szB h; omega)) (fun b h => ih b.body (by have := mem_szA h; omega))
end Go.Proofs.Ythpenpgcacikaaa
