/-
  The document's scope (layer 10): what expr does, at every expression. No conditions.
-/
import Derived.Test.YthpenpgcacikaaaSc2
namespace Go.Proofs.Ythpenpgcacikaaa
set_option linter.unusedSimpArgs false
set_option linter.unusedVariables false
open Go.RowKit

section
variable {cons : List (List UInt8)}
set_option maxRecDepth 100000 in
set_option maxHeartbeats 8000000 in
theorem sc_var {nm : List UInt8} {fl : Bool} {bi : Nat} {ps : List (List UInt8)} {ks : List TE} {bs : List TB} {al : List TA}  (hK : ∀ e ∈ ks, ScOk cons e) (hB : ∀ b ∈ bs, ScOk cons b.body) (hA : ∀ b ∈ al, ScOk cons b.body) : ScOk cons (.mk 1 nm fl bi ps ks bs al) := by
  intro w sb s i iv cs h hE hi hl9
  cases hE with
  | mk kc bc ac be ae bp an hp hk hk2 hb hb1 hb2 hb3 ha ha1 ha2 ha3 =>
  have hbb : ∀ j (h : j < bs.length), BAt (fun b => b = sb) w (bc j) bs[j] := fun j hj => ⟨bp j, be j, hb1 j hj, hb2 j hj, hb3 j hj⟩
  have haa : ∀ j (h : j < al.length), AAt (fun b => b = sb) w (ac j) al[j] := fun j hj => ⟨an j, ae j, ha1 j hj, ha2 j hj, ha3 j hj⟩
  obtain ⟨a0, c0, rfl⟩ := RowC.shape hp
  obtain ⟨a1, c1, rfl⟩ := hk.shape
  obtain ⟨a2, c2, rfl⟩ := hb.shape
  obtain ⟨a3, c3, rfl⟩ := ha.shape
  have hnk9 : ks.length ≤ 9223372036854775807 := by
    obtain ⟨_, _, e, q1, q2, _⟩ := hk
    unfold maxLen at q2
    omega
  have HR := Lib.hid (And.intro hp (And.intro hk (And.intro hk2 (And.intro hb (And.intro hbb (And.intro ha haa))))))
  obtain ⟨R, hR⟩ : ∃ R, scE cons (.mk 1 nm fl bi ps ks bs al) i s = R := ⟨_, rfl⟩
  rw [hR]
  have HRR := Lib.hid hR
  obtain ⟨ia, ic, rfl⟩ := RowC.shape hi
  obtain ⟨ni, hni⟩ : ∃ n, i.length = n := ⟨_, rfl⟩
  have hi' : RowS (fun b => b = sb) w (.slice ia ni ic) i := by rw [← hni]; exact hi
  have hlt := h.lt
  have hwt : i.length + (wtK ks + (wnB bs + bs.length) + wtA al + ps.length) ≤ 900000 := by
    have := wnB_eq bs
    unfold wtE at hl9
    omega
  have HH := Lib.hid (And.intro h (And.intro hi' (And.intro hni hwt)))
  have HO := Lib.hid (And.intro hK (And.intro hB hA))
  obtain ⟨nk, hnk⟩ : ∃ nk, ks.length = nk := ⟨_, rfl⟩
  obtain ⟨nb, hnb⟩ : ∃ nb, bs.length = nb := ⟨_, rfl⟩
  obtain ⟨na, hna⟩ : ∃ na, al.length = na := ⟨_, rfl⟩
  obtain ⟨np, hnp⟩ : ∃ np, ps.length = np := ⟨_, rfl⟩
  rw [hnk, hnb, hna, hnp, hni]
  rw [hnk] at hnk9
  have HN := Lib.hid (And.intro hnk (And.intro hnb (And.intro hna hnp)))
  clear hp hk hk2 hb hb1 hb2 hb3 ha ha1 ha2 ha3 hbb haa hR h hi hi' hni hl9 hwt hK hB hA hnk hnb hna hnp
  obtain ⟨T, hT⟩ : ∃ T, w.heap.size = T := ⟨_, rfl⟩
  have HTN := Lib.hid (show ¬ (fun b => b = sb) T ∧ w.heap.size = T from ⟨fun q => by have q' : T = sb := q; omega, hT⟩)
  have hin : True := trivial
  by_cases hn : nm ∈ i
  · have HE := Lib.hid (show scE cons (.mk 1 nm fl bi ps ks bs al) i s = scA cons al i (scK cons ks i s) ∧ i.length + (wtK ks + wtA al) ≤ 900000 from ⟨by unfold scE; rw [if_pos rfl, if_pos hn], by have := HH.out.2.2.2; omega⟩)
    have hd := decide_eq_true hn
    clear hin
    go_enter Try.func41, Try.ntmps41
    go_wp2_with fail
    obtain ⟨W1, hW1⟩ : ∃ W1, w.alloc (.cells #[.int .i64 1, .string ⟨nm.toArray⟩, .bool fl, .int .u64 (bi : Int), .slice a0 np c0, .slice a1 nk c1, .slice a2 nb c2, .slice a3 na c3] 32) = W1 := ⟨_, rfl⟩
    rw [hW1]
    have H1 := Lib.hid (And.intro (show Fr Nil w W1 by rw [← hW1]; (repeat (first | (with_reducible exact Fr.refl _ _) | (with_reducible assumption) | (with_reducible exact Fr.of_nil (by assumption)) | (with_reducible refine Fr.drew ?_) | (with_reducible refine Fr.drewN ?_ _) | (with_reducible refine Fr.alloc ?_ _) | (with_reducible refine Fr.set ?_ _ _ (by first | (intros; omega) | (simp; done) | (simp; omega))) | (with_reducible refine Fr.via ?_ (by assumption)) | (with_reducible refine Fr.comp ?_ (by assumption))))) (show Blk W1 T #[.int .i64 1, .string ⟨nm.toArray⟩, .bool fl, .int .u64 (bi : Int), .slice a0 np c0, .slice a1 nk c1, .slice a2 nb c2, .slice a3 na c3] 32 by rw [← hW1, ← hT]; exact Blk.new _ _ _))
    clear hW1
    have hi1 := in_any nm (RowS.fr HH.out.2.1 H1.out.1 (fun _ q => q.elim))
    rw [hd] at hi1
    refine hi1.mono ?_
    rintro e wx ⟨rfl, fx⟩
    have HT := Lib.hid (And.intro (HH.out.1.fr (H1.out.1.comp fx)) (And.intro (RowS.fr HH.out.2.1 (H1.out.1.comp fx) (fun _ q => q.elim)) (And.intro (fx.blk H1.out.2 (fun q => q)) (Fr.of_nil (S := fun b => b = sb) (H1.out.1.comp fx)))))
    clear fx hi1 hd hn
    have htc : ∀ w', Fr (fun b => b = sb) wx w' → w'.cell? ⟨T, 5, none⟩ = some (.slice a1 nk c1) ∧ w'.cell? ⟨T, 7, none⟩ = some (.slice a3 na c3) ∧ T < w'.heap.size := fun w' f => by
      have b := f.blk HT.out.2.2.1 HTN.out.1
      exact ⟨by have := b.cell 5; simpa using this, by have := b.cell 7; simpa using this, b.lt⟩
    have HTC := Lib.hid htc
    obtain ⟨t5, t7, tl⟩ := HTC.out wx (Fr.refl _ _)
    clear htc
    go_wp2_with fail
    go_loopg [7] nk (fun g jv wr => ∃ j : Nat, g = nk - j ∧ j ≤ nk ∧ jv = .int .i64 (j : Int) ∧ Hid (SAt wr sb cons (scK cons (ks.take j) i s) ∧ Fr (fun b => b = sb) wx wr))
    case atStart => exact ⟨0, rfl, by omega, rfl, Lib.hid ⟨by simpa [scK] using HT.out.1, Fr.refl _ _⟩⟩
    case round =>
      clear t5 t7 tl
      obtain ⟨j, rfl, hjn, rfl, HS⟩ := hrel
      have j0 : (0 : Int) ≤ (j : Int) := by omega
      obtain ⟨t5, t7, tl⟩ := HTC.out wr HS.out.2
      by_cases hlt : j < nk
      · have hjL : j < ks.length := by rw [HN.out.1]; exact hlt
        have wk : IntKind.i64.wrap ((j : Int) + 1) = (j : Int) + 1 := by rw [IntKind.wrap_i64]; omega
        have j1 : (j : Int) < (nk : Int) := by omega
        obtain ⟨b, off, rfl, hbs, hc⟩ := (HR.out.2.1.fr (HT.out.2.2.2.comp HS.out.2) (fun _ q => q)).at hjL
        have hEA := (HR.out.2.2.1 j hjL).fr (HT.out.2.2.2.comp HS.out.2) (fun _ q => q)
        obtain ⟨k', nm', fl', bi', b0, m0, d0, b1, m1, d1, b2, m2, d2, b3, m3, d3, ec⟩ := hEA.formE
        rw [ec] at hc hEA
        have p0 := hc 0 _ rfl
        have p1 := hc 1 _ rfl
        have p2 := hc 2 _ rfl
        have p3 := hc 3 _ rfl
        have p4 := hc 4 _ rfl
        have p5 := hc 5 _ rfl
        have p6 := hc 6 _ rfl
        have p7 := hc 7 _ rfl
        simp only [Nat.add_zero] at p0
        have hw1 := wtK_take hjL
        have hw2 := wtK_take_le ks (j + 1)
        have HQ := Lib.hid (And.intro hEA (And.intro (scK_take cons hjL i s) (show wtE ks[j] ≤ wtK ks by omega)))
        clear hEA hc ec hw1 hw2
        go_wp2_with fail
        refine (HO.out.1 _ (List.getElem_mem hjL) _ sb _ _ _ _ HS.out.1 HQ.out.1 (RowS.fr HT.out.2.1 HS.out.2 (fun _ q => q)) (by have := HE.out.2; have := HQ.out.2.2; omega)).mono ?_
        rintro e w7 ⟨rfl, h7, f7⟩
        have H7 := Lib.hid (And.intro h7 (HS.out.2.comp f7))
        clear h7 f7 p0 p1 p2 p3 p4 p5 p6 p7 t5 t7 tl
        go_wp2
        go_roundg (nk - (j + 1))
        case rel => exact ⟨j + 1, rfl, by omega, by simp, Lib.hid ⟨by rw [HQ.out.2.1]; exact H7.out.1, H7.out.2⟩⟩
        case measure => omega
      · have j1 : ¬ (j : Int) < (nk : Int) := by omega
        obtain rfl : nk = j := by omega
        have HF : Hid (SAt wr sb cons (scK cons ks i s) ∧ Fr (fun b => b = sb) wx wr) := Lib.hid (by
          have h := HS.out
          rw [List.take_of_length_le (by rw [HN.out.1]; exact Nat.le_refl _)] at h
          exact h)
        clear HS
        go_wp2_with fail
        have hal := salts_any (al := al) (ac := ac) HO.out.2.2 HF.out.1 (HR.out.2.2.2.2.2.1.fr (HT.out.2.2.2.comp HF.out.2) (fun _ q => q)) (fun j hj => lawA.fr (HR.out.2.2.2.2.2.2 j hj) (HT.out.2.2.2.comp HF.out.2) (fun _ q => q)) (RowS.fr HT.out.2.1 HF.out.2 (fun _ q => q)) (by have := HE.out.2; omega)
        rw [HN.out.2.2.1] at hal
        refine hal.mono ?_
        rintro e w8 ⟨rfl, h8, f8⟩
        have H8 := Lib.hid (And.intro h8 (HT.out.2.2.2.comp (HF.out.2.comp f8)))
        clear h8 f8 hal t5 t7 tl
        go_wp2
        go_end0
        exact ⟨rfl, by rw [← HRR.out, HE.out.1]; exact H8.out.1, H8.out.2⟩
  · obtain ⟨s1, hs1⟩ : ∃ s1, fltS s 4 nm = s1 := ⟨_, rfl⟩
    have HE := Lib.hid (show scE cons (.mk 1 nm fl bi ps ks bs al) i s = scA cons al i (scK cons ks i s1) ∧ i.length + (wtK ks + wtA al) ≤ 900000 from ⟨by unfold scE; rw [if_pos rfl, if_neg hn, hs1], by have := HH.out.2.2.2; omega⟩)
    have hd := decide_eq_false hn
    have HS1 := Lib.hid hs1
    clear hin hs1
    go_enter Try.func41, Try.ntmps41
    go_wp2_with fail
    obtain ⟨W1, hW1⟩ : ∃ W1, w.alloc (.cells #[.int .i64 1, .string ⟨nm.toArray⟩, .bool fl, .int .u64 (bi : Int), .slice a0 np c0, .slice a1 nk c1, .slice a2 nb c2, .slice a3 na c3] 32) = W1 := ⟨_, rfl⟩
    rw [hW1]
    have H1 := Lib.hid (And.intro (show Fr Nil w W1 by rw [← hW1]; (repeat (first | (with_reducible exact Fr.refl _ _) | (with_reducible assumption) | (with_reducible exact Fr.of_nil (by assumption)) | (with_reducible refine Fr.drew ?_) | (with_reducible refine Fr.drewN ?_ _) | (with_reducible refine Fr.alloc ?_ _) | (with_reducible refine Fr.set ?_ _ _ (by first | (intros; omega) | (simp; done) | (simp; omega))) | (with_reducible refine Fr.via ?_ (by assumption)) | (with_reducible refine Fr.comp ?_ (by assumption))))) (show Blk W1 T #[.int .i64 1, .string ⟨nm.toArray⟩, .bool fl, .int .u64 (bi : Int), .slice a0 np c0, .slice a1 nk c1, .slice a2 nb c2, .slice a3 na c3] 32 by rw [← hW1, ← hT]; exact Blk.new _ _ _))
    clear hW1
    have hi1 := in_any nm (RowS.fr HH.out.2.1 H1.out.1 (fun _ q => q.elim))
    rw [hd] at hi1
    refine hi1.mono ?_
    rintro e w2 ⟨rfl, f2⟩
    have b2 := f2.blk H1.out.2 (fun q => q)
    have t1 := b2.cell 1
    simp at t1
    have tl2 := b2.lt
    have H2 := Lib.hid (And.intro f2 b2)
    clear f2 b2 hi1 hd hn
    go_wp2_with fail
    refine (fault_any (HH.out.1.fr (H1.out.1.comp H2.out.1)) 4 nm).mono ?_
    rintro e wx ⟨rfl, hx, fx⟩
    rw [HS1.out] at hx
    have hfx : Fr (fun b => b = sb) w wx := (Fr.of_nil (H1.out.1.comp H2.out.1)).comp fx
    have HT := Lib.hid (And.intro hx (And.intro (RowS.fr HH.out.2.1 hfx (fun _ q => q)) (And.intro (fx.blk H2.out.2 HTN.out.1) hfx)))
    clear hx fx hfx t1 tl2
    have htc : ∀ w', Fr (fun b => b = sb) wx w' → w'.cell? ⟨T, 5, none⟩ = some (.slice a1 nk c1) ∧ w'.cell? ⟨T, 7, none⟩ = some (.slice a3 na c3) ∧ T < w'.heap.size := fun w' f => by
      have b := f.blk HT.out.2.2.1 HTN.out.1
      exact ⟨by have := b.cell 5; simpa using this, by have := b.cell 7; simpa using this, b.lt⟩
    have HTC := Lib.hid htc
    obtain ⟨t5, t7, tl⟩ := HTC.out wx (Fr.refl _ _)
    clear htc
    go_wp2_with fail
    go_loopg [7] nk (fun g jv wr => ∃ j : Nat, g = nk - j ∧ j ≤ nk ∧ jv = .int .i64 (j : Int) ∧ Hid (SAt wr sb cons (scK cons (ks.take j) i s1) ∧ Fr (fun b => b = sb) wx wr))
    case atStart => exact ⟨0, rfl, by omega, rfl, Lib.hid ⟨by simpa [scK] using HT.out.1, Fr.refl _ _⟩⟩
    case round =>
      clear t5 t7 tl
      obtain ⟨j, rfl, hjn, rfl, HS⟩ := hrel
      have j0 : (0 : Int) ≤ (j : Int) := by omega
      obtain ⟨t5, t7, tl⟩ := HTC.out wr HS.out.2
      by_cases hlt : j < nk
      · have hjL : j < ks.length := by rw [HN.out.1]; exact hlt
        have wk : IntKind.i64.wrap ((j : Int) + 1) = (j : Int) + 1 := by rw [IntKind.wrap_i64]; omega
        have j1 : (j : Int) < (nk : Int) := by omega
        obtain ⟨b, off, rfl, hbs, hc⟩ := (HR.out.2.1.fr (HT.out.2.2.2.comp HS.out.2) (fun _ q => q)).at hjL
        have hEA := (HR.out.2.2.1 j hjL).fr (HT.out.2.2.2.comp HS.out.2) (fun _ q => q)
        obtain ⟨k', nm', fl', bi', b0, m0, d0, b1, m1, d1, b2, m2, d2, b3, m3, d3, ec⟩ := hEA.formE
        rw [ec] at hc hEA
        have p0 := hc 0 _ rfl
        have p1 := hc 1 _ rfl
        have p2 := hc 2 _ rfl
        have p3 := hc 3 _ rfl
        have p4 := hc 4 _ rfl
        have p5 := hc 5 _ rfl
        have p6 := hc 6 _ rfl
        have p7 := hc 7 _ rfl
        simp only [Nat.add_zero] at p0
        have hw1 := wtK_take hjL
        have hw2 := wtK_take_le ks (j + 1)
        have HQ := Lib.hid (And.intro hEA (And.intro (scK_take cons hjL i s1) (show wtE ks[j] ≤ wtK ks by omega)))
        clear hEA hc ec hw1 hw2
        go_wp2_with fail
        refine (HO.out.1 _ (List.getElem_mem hjL) _ sb _ _ _ _ HS.out.1 HQ.out.1 (RowS.fr HT.out.2.1 HS.out.2 (fun _ q => q)) (by have := HE.out.2; have := HQ.out.2.2; omega)).mono ?_
        rintro e w7 ⟨rfl, h7, f7⟩
        have H7 := Lib.hid (And.intro h7 (HS.out.2.comp f7))
        clear h7 f7 p0 p1 p2 p3 p4 p5 p6 p7 t5 t7 tl
        go_wp2
        go_roundg (nk - (j + 1))
        case rel => exact ⟨j + 1, rfl, by omega, by simp, Lib.hid ⟨by rw [HQ.out.2.1]; exact H7.out.1, H7.out.2⟩⟩
        case measure => omega
      · have j1 : ¬ (j : Int) < (nk : Int) := by omega
        obtain rfl : nk = j := by omega
        have HF : Hid (SAt wr sb cons (scK cons ks i s1) ∧ Fr (fun b => b = sb) wx wr) := Lib.hid (by
          have h := HS.out
          rw [List.take_of_length_le (by rw [HN.out.1]; exact Nat.le_refl _)] at h
          exact h)
        clear HS
        go_wp2_with fail
        have hal := salts_any (al := al) (ac := ac) HO.out.2.2 HF.out.1 (HR.out.2.2.2.2.2.1.fr (HT.out.2.2.2.comp HF.out.2) (fun _ q => q)) (fun j hj => lawA.fr (HR.out.2.2.2.2.2.2 j hj) (HT.out.2.2.2.comp HF.out.2) (fun _ q => q)) (RowS.fr HT.out.2.1 HF.out.2 (fun _ q => q)) (by have := HE.out.2; omega)
        rw [HN.out.2.2.1] at hal
        refine hal.mono ?_
        rintro e w8 ⟨rfl, h8, f8⟩
        have H8 := Lib.hid (And.intro h8 (HT.out.2.2.2.comp (HF.out.2.comp f8)))
        clear h8 f8 hal t5 t7 tl
        go_wp2
        go_end0
        exact ⟨rfl, by rw [← HRR.out, HE.out.1]; exact H8.out.1, H8.out.2⟩
set_option maxRecDepth 100000 in
set_option maxHeartbeats 8000000 in
theorem sc_con {nm : List UInt8} {fl : Bool} {bi : Nat} {ps : List (List UInt8)} {ks : List TE} {bs : List TB} {al : List TA}  (hK : ∀ e ∈ ks, ScOk cons e) (hB : ∀ b ∈ bs, ScOk cons b.body) (hA : ∀ b ∈ al, ScOk cons b.body) : ScOk cons (.mk 2 nm fl bi ps ks bs al) := by
  intro w sb s i iv cs h hE hi hl9
  cases hE with
  | mk kc bc ac be ae bp an hp hk hk2 hb hb1 hb2 hb3 ha ha1 ha2 ha3 =>
  have hbb : ∀ j (h : j < bs.length), BAt (fun b => b = sb) w (bc j) bs[j] := fun j hj => ⟨bp j, be j, hb1 j hj, hb2 j hj, hb3 j hj⟩
  have haa : ∀ j (h : j < al.length), AAt (fun b => b = sb) w (ac j) al[j] := fun j hj => ⟨an j, ae j, ha1 j hj, ha2 j hj, ha3 j hj⟩
  obtain ⟨a0, c0, rfl⟩ := RowC.shape hp
  obtain ⟨a1, c1, rfl⟩ := hk.shape
  obtain ⟨a2, c2, rfl⟩ := hb.shape
  obtain ⟨a3, c3, rfl⟩ := ha.shape
  have hnk9 : ks.length ≤ 9223372036854775807 := by
    obtain ⟨_, _, e, q1, q2, _⟩ := hk
    unfold maxLen at q2
    omega
  have HR := Lib.hid (And.intro hp (And.intro hk (And.intro hk2 (And.intro hb (And.intro hbb (And.intro ha haa))))))
  obtain ⟨R, hR⟩ : ∃ R, scE cons (.mk 2 nm fl bi ps ks bs al) i s = R := ⟨_, rfl⟩
  rw [hR]
  have HRR := Lib.hid hR
  obtain ⟨ia, ic, rfl⟩ := RowC.shape hi
  obtain ⟨ni, hni⟩ : ∃ n, i.length = n := ⟨_, rfl⟩
  have hi' : RowS (fun b => b = sb) w (.slice ia ni ic) i := by rw [← hni]; exact hi
  have hlt := h.lt
  have hwt : i.length + (wtK ks + (wnB bs + bs.length) + wtA al + ps.length) ≤ 900000 := by
    have := wnB_eq bs
    unfold wtE at hl9
    omega
  have HH := Lib.hid (And.intro h (And.intro hi' (And.intro hni hwt)))
  have HO := Lib.hid (And.intro hK (And.intro hB hA))
  obtain ⟨nk, hnk⟩ : ∃ nk, ks.length = nk := ⟨_, rfl⟩
  obtain ⟨nb, hnb⟩ : ∃ nb, bs.length = nb := ⟨_, rfl⟩
  obtain ⟨na, hna⟩ : ∃ na, al.length = na := ⟨_, rfl⟩
  obtain ⟨np, hnp⟩ : ∃ np, ps.length = np := ⟨_, rfl⟩
  rw [hnk, hnb, hna, hnp, hni]
  rw [hnk] at hnk9
  have HN := Lib.hid (And.intro hnk (And.intro hnb (And.intro hna hnp)))
  clear hp hk hk2 hb hb1 hb2 hb3 ha ha1 ha2 ha3 hbb haa hR h hi hi' hni hl9 hwt hK hB hA hnk hnb hna hnp
  obtain ⟨T, hT⟩ : ∃ T, w.heap.size = T := ⟨_, rfl⟩
  have HTN := Lib.hid (show ¬ (fun b => b = sb) T ∧ w.heap.size = T from ⟨fun q => by have q' : T = sb := q; omega, hT⟩)
  obtain ⟨s1, hs1⟩ : ∃ s1, conS cons nm s = s1 := ⟨_, rfl⟩
  have HE := Lib.hid (show scE cons (.mk 2 nm fl bi ps ks bs al) i s = scA cons al i (scK cons ks i s1) ∧ i.length + (wtK ks + wtA al) ≤ 900000 from ⟨by unfold scE; rw [if_neg (by decide), if_pos rfl, hs1], by have := HH.out.2.2.2; omega⟩)
  have HS1 := Lib.hid hs1
  clear hs1
  go_enter Try.func41, Try.ntmps41
  go_wp2_with fail
  obtain ⟨W1, hW1⟩ : ∃ W1, w.alloc (.cells #[.int .i64 2, .string ⟨nm.toArray⟩, .bool fl, .int .u64 (bi : Int), .slice a0 np c0, .slice a1 nk c1, .slice a2 nb c2, .slice a3 na c3] 32) = W1 := ⟨_, rfl⟩
  rw [hW1]
  have H1 := Lib.hid (And.intro (show Fr Nil w W1 by rw [← hW1]; (repeat (first | (with_reducible exact Fr.refl _ _) | (with_reducible assumption) | (with_reducible exact Fr.of_nil (by assumption)) | (with_reducible refine Fr.drew ?_) | (with_reducible refine Fr.drewN ?_ _) | (with_reducible refine Fr.alloc ?_ _) | (with_reducible refine Fr.set ?_ _ _ (by first | (intros; omega) | (simp; done) | (simp; omega))) | (with_reducible refine Fr.via ?_ (by assumption)) | (with_reducible refine Fr.comp ?_ (by assumption))))) (show Blk W1 T #[.int .i64 2, .string ⟨nm.toArray⟩, .bool fl, .int .u64 (bi : Int), .slice a0 np c0, .slice a1 nk c1, .slice a2 nb c2, .slice a3 na c3] 32 by rw [← hW1, ← hT]; exact Blk.new _ _ _))
  clear hW1
  refine (con_any (HH.out.1.fr H1.out.1) nm).mono ?_
  rintro e wx ⟨rfl, hx, fx⟩
  rw [HS1.out] at hx
  have hfx : Fr (fun b => b = sb) w wx := (Fr.of_nil H1.out.1).comp fx
  have HT := Lib.hid (And.intro hx (And.intro (RowS.fr HH.out.2.1 hfx (fun _ q => q)) (And.intro (fx.blk H1.out.2 HTN.out.1) hfx)))
  clear hx fx hfx
  have htc : ∀ w', Fr (fun b => b = sb) wx w' → w'.cell? ⟨T, 5, none⟩ = some (.slice a1 nk c1) ∧ w'.cell? ⟨T, 7, none⟩ = some (.slice a3 na c3) ∧ T < w'.heap.size := fun w' f => by
    have b := f.blk HT.out.2.2.1 HTN.out.1
    exact ⟨by have := b.cell 5; simpa using this, by have := b.cell 7; simpa using this, b.lt⟩
  have HTC := Lib.hid htc
  obtain ⟨t5, t7, tl⟩ := HTC.out wx (Fr.refl _ _)
  clear htc
  go_wp2_with fail
  go_loopg [7] nk (fun g jv wr => ∃ j : Nat, g = nk - j ∧ j ≤ nk ∧ jv = .int .i64 (j : Int) ∧ Hid (SAt wr sb cons (scK cons (ks.take j) i s1) ∧ Fr (fun b => b = sb) wx wr))
  case atStart => exact ⟨0, rfl, by omega, rfl, Lib.hid ⟨by simpa [scK] using HT.out.1, Fr.refl _ _⟩⟩
  case round =>
    clear t5 t7 tl
    obtain ⟨j, rfl, hjn, rfl, HS⟩ := hrel
    have j0 : (0 : Int) ≤ (j : Int) := by omega
    obtain ⟨t5, t7, tl⟩ := HTC.out wr HS.out.2
    by_cases hlt : j < nk
    · have hjL : j < ks.length := by rw [HN.out.1]; exact hlt
      have wk : IntKind.i64.wrap ((j : Int) + 1) = (j : Int) + 1 := by rw [IntKind.wrap_i64]; omega
      have j1 : (j : Int) < (nk : Int) := by omega
      obtain ⟨b, off, rfl, hbs, hc⟩ := (HR.out.2.1.fr (HT.out.2.2.2.comp HS.out.2) (fun _ q => q)).at hjL
      have hEA := (HR.out.2.2.1 j hjL).fr (HT.out.2.2.2.comp HS.out.2) (fun _ q => q)
      obtain ⟨k', nm', fl', bi', b0, m0, d0, b1, m1, d1, b2, m2, d2, b3, m3, d3, ec⟩ := hEA.formE
      rw [ec] at hc hEA
      have p0 := hc 0 _ rfl
      have p1 := hc 1 _ rfl
      have p2 := hc 2 _ rfl
      have p3 := hc 3 _ rfl
      have p4 := hc 4 _ rfl
      have p5 := hc 5 _ rfl
      have p6 := hc 6 _ rfl
      have p7 := hc 7 _ rfl
      simp only [Nat.add_zero] at p0
      have hw1 := wtK_take hjL
      have hw2 := wtK_take_le ks (j + 1)
      have HQ := Lib.hid (And.intro hEA (And.intro (scK_take cons hjL i s1) (show wtE ks[j] ≤ wtK ks by omega)))
      clear hEA hc ec hw1 hw2
      go_wp2_with fail
      refine (HO.out.1 _ (List.getElem_mem hjL) _ sb _ _ _ _ HS.out.1 HQ.out.1 (RowS.fr HT.out.2.1 HS.out.2 (fun _ q => q)) (by have := HE.out.2; have := HQ.out.2.2; omega)).mono ?_
      rintro e w7 ⟨rfl, h7, f7⟩
      have H7 := Lib.hid (And.intro h7 (HS.out.2.comp f7))
      clear h7 f7 p0 p1 p2 p3 p4 p5 p6 p7 t5 t7 tl
      go_wp2
      go_roundg (nk - (j + 1))
      case rel => exact ⟨j + 1, rfl, by omega, by simp, Lib.hid ⟨by rw [HQ.out.2.1]; exact H7.out.1, H7.out.2⟩⟩
      case measure => omega
    · have j1 : ¬ (j : Int) < (nk : Int) := by omega
      obtain rfl : nk = j := by omega
      have HF : Hid (SAt wr sb cons (scK cons ks i s1) ∧ Fr (fun b => b = sb) wx wr) := Lib.hid (by
        have h := HS.out
        rw [List.take_of_length_le (by rw [HN.out.1]; exact Nat.le_refl _)] at h
        exact h)
      clear HS
      go_wp2_with fail
      have hal := salts_any (al := al) (ac := ac) HO.out.2.2 HF.out.1 (HR.out.2.2.2.2.2.1.fr (HT.out.2.2.2.comp HF.out.2) (fun _ q => q)) (fun j hj => lawA.fr (HR.out.2.2.2.2.2.2 j hj) (HT.out.2.2.2.comp HF.out.2) (fun _ q => q)) (RowS.fr HT.out.2.1 HF.out.2 (fun _ q => q)) (by have := HE.out.2; omega)
      rw [HN.out.2.2.1] at hal
      refine hal.mono ?_
      rintro e w8 ⟨rfl, h8, f8⟩
      have H8 := Lib.hid (And.intro h8 (HT.out.2.2.2.comp (HF.out.2.comp f8)))
      clear h8 f8 hal t5 t7 tl
      go_wp2
      go_end0
      exact ⟨rfl, by rw [← HRR.out, HE.out.1]; exact H8.out.1, H8.out.2⟩
set_option maxRecDepth 100000 in
set_option maxHeartbeats 8000000 in
theorem sc_else {k : Nat} {nm : List UInt8} {fl : Bool} {bi : Nat} {ps : List (List UInt8)} {ks : List TE} {bs : List TB} {al : List TA} (h1 : k ≠ 1) (h2 : k ≠ 2) (h6 : k ≠ 6) (h8 : k ≠ 8) (hK : ∀ e ∈ ks, ScOk cons e) (hB : ∀ b ∈ bs, ScOk cons b.body) (hA : ∀ b ∈ al, ScOk cons b.body) : ScOk cons (.mk k nm fl bi ps ks bs al) := by
  intro w sb s i iv cs h hE hi hl9
  cases hE with
  | mk kc bc ac be ae bp an hp hk hk2 hb hb1 hb2 hb3 ha ha1 ha2 ha3 =>
  have hbb : ∀ j (h : j < bs.length), BAt (fun b => b = sb) w (bc j) bs[j] := fun j hj => ⟨bp j, be j, hb1 j hj, hb2 j hj, hb3 j hj⟩
  have haa : ∀ j (h : j < al.length), AAt (fun b => b = sb) w (ac j) al[j] := fun j hj => ⟨an j, ae j, ha1 j hj, ha2 j hj, ha3 j hj⟩
  obtain ⟨a0, c0, rfl⟩ := RowC.shape hp
  obtain ⟨a1, c1, rfl⟩ := hk.shape
  obtain ⟨a2, c2, rfl⟩ := hb.shape
  obtain ⟨a3, c3, rfl⟩ := ha.shape
  have hnk9 : ks.length ≤ 9223372036854775807 := by
    obtain ⟨_, _, e, q1, q2, _⟩ := hk
    unfold maxLen at q2
    omega
  have HR := Lib.hid (And.intro hp (And.intro hk (And.intro hk2 (And.intro hb (And.intro hbb (And.intro ha haa))))))
  obtain ⟨R, hR⟩ : ∃ R, scE cons (.mk k nm fl bi ps ks bs al) i s = R := ⟨_, rfl⟩
  rw [hR]
  have HRR := Lib.hid hR
  obtain ⟨ia, ic, rfl⟩ := RowC.shape hi
  obtain ⟨ni, hni⟩ : ∃ n, i.length = n := ⟨_, rfl⟩
  have hi' : RowS (fun b => b = sb) w (.slice ia ni ic) i := by rw [← hni]; exact hi
  have hlt := h.lt
  have hwt : i.length + (wtK ks + (wnB bs + bs.length) + wtA al + ps.length) ≤ 900000 := by
    have := wnB_eq bs
    unfold wtE at hl9
    omega
  have HH := Lib.hid (And.intro h (And.intro hi' (And.intro hni hwt)))
  have HO := Lib.hid (And.intro hK (And.intro hB hA))
  obtain ⟨nk, hnk⟩ : ∃ nk, ks.length = nk := ⟨_, rfl⟩
  obtain ⟨nb, hnb⟩ : ∃ nb, bs.length = nb := ⟨_, rfl⟩
  obtain ⟨na, hna⟩ : ∃ na, al.length = na := ⟨_, rfl⟩
  obtain ⟨np, hnp⟩ : ∃ np, ps.length = np := ⟨_, rfl⟩
  rw [hnk, hnb, hna, hnp, hni]
  rw [hnk] at hnk9
  have HN := Lib.hid (And.intro hnk (And.intro hnb (And.intro hna hnp)))
  clear hp hk hk2 hb hb1 hb2 hb3 ha ha1 ha2 ha3 hbb haa hR h hi hi' hni hl9 hwt hK hB hA hnk hnb hna hnp
  obtain ⟨T, hT⟩ : ∃ T, w.heap.size = T := ⟨_, rfl⟩
  have HTN := Lib.hid (show ¬ (fun b => b = sb) T ∧ w.heap.size = T from ⟨fun q => by have q' : T = sb := q; omega, hT⟩)
  have HE := Lib.hid (show scE cons (.mk k nm fl bi ps ks bs al) i s = scA cons al i (scK cons ks i s) ∧ i.length + (wtK ks + wtA al) ≤ 900000 from ⟨by unfold scE; rw [if_neg h1, if_neg h2, if_neg h6, if_neg h8], by have := HH.out.2.2.2; omega⟩)
  have e1 : ((k : Int) == 1) = false := beq_false_of_ne (by omega)
  have e2 : ((k : Int) == 2) = false := beq_false_of_ne (by omega)
  have e6 : ((k : Int) == 6) = false := beq_false_of_ne (by omega)
  have e8 : ((k : Int) == 8) = false := beq_false_of_ne (by omega)
  clear h1 h2 h6 h8
  go_enter Try.func41, Try.ntmps41
  go_upto_region 15 with fail
  obtain ⟨wx, hwx⟩ : ∃ wx, w.alloc (.cells #[.int .i64 (k : Int), .string ⟨nm.toArray⟩, .bool fl, .int .u64 (bi : Int), .slice a0 np c0, .slice a1 nk c1, .slice a2 nb c2, .slice a3 na c3] 32) = wx := ⟨_, rfl⟩
  rw [hwx]
  have H1 := Lib.hid (And.intro (show Fr Nil w wx by rw [← hwx]; (repeat (first | (with_reducible exact Fr.refl _ _) | (with_reducible assumption) | (with_reducible exact Fr.of_nil (by assumption)) | (with_reducible refine Fr.drew ?_) | (with_reducible refine Fr.drewN ?_ _) | (with_reducible refine Fr.alloc ?_ _) | (with_reducible refine Fr.set ?_ _ _ (by first | (intros; omega) | (simp; done) | (simp; omega))) | (with_reducible refine Fr.via ?_ (by assumption)) | (with_reducible refine Fr.comp ?_ (by assumption))))) (show Blk wx T #[.int .i64 (k : Int), .string ⟨nm.toArray⟩, .bool fl, .int .u64 (bi : Int), .slice a0 np c0, .slice a1 nk c1, .slice a2 nb c2, .slice a3 na c3] 32 by rw [← hwx, ← hT]; exact Blk.new _ _ _))
  clear hwx
  have HT := Lib.hid (And.intro (HH.out.1.fr H1.out.1) (And.intro (RowS.fr HH.out.2.1 H1.out.1 (fun _ q => q.elim)) (And.intro H1.out.2 (Fr.of_nil (S := fun b => b = sb) H1.out.1))))
  have htc : ∀ w', Fr (fun b => b = sb) wx w' → w'.cell? ⟨T, 5, none⟩ = some (.slice a1 nk c1) ∧ w'.cell? ⟨T, 7, none⟩ = some (.slice a3 na c3) ∧ T < w'.heap.size := fun w' f => by
    have b := f.blk HT.out.2.2.1 HTN.out.1
    exact ⟨by have := b.cell 5; simpa using this, by have := b.cell 7; simpa using this, b.lt⟩
  have HTC := Lib.hid htc
  obtain ⟨t5, t7, tl⟩ := HTC.out wx (Fr.refl _ _)
  clear htc
  go_wp2_with fail
  go_loopg [7] nk (fun g jv wr => ∃ j : Nat, g = nk - j ∧ j ≤ nk ∧ jv = .int .i64 (j : Int) ∧ Hid (SAt wr sb cons (scK cons (ks.take j) i s) ∧ Fr (fun b => b = sb) wx wr))
  case atStart => exact ⟨0, rfl, by omega, rfl, Lib.hid ⟨by simpa [scK] using HT.out.1, Fr.refl _ _⟩⟩
  case round =>
    clear t5 t7 tl
    obtain ⟨j, rfl, hjn, rfl, HS⟩ := hrel
    have j0 : (0 : Int) ≤ (j : Int) := by omega
    obtain ⟨t5, t7, tl⟩ := HTC.out wr HS.out.2
    by_cases hlt : j < nk
    · have hjL : j < ks.length := by rw [HN.out.1]; exact hlt
      have wk : IntKind.i64.wrap ((j : Int) + 1) = (j : Int) + 1 := by rw [IntKind.wrap_i64]; omega
      have j1 : (j : Int) < (nk : Int) := by omega
      obtain ⟨b, off, rfl, hbs, hc⟩ := (HR.out.2.1.fr (HT.out.2.2.2.comp HS.out.2) (fun _ q => q)).at hjL
      have hEA := (HR.out.2.2.1 j hjL).fr (HT.out.2.2.2.comp HS.out.2) (fun _ q => q)
      obtain ⟨k', nm', fl', bi', b0, m0, d0, b1, m1, d1, b2, m2, d2, b3, m3, d3, ec⟩ := hEA.formE
      rw [ec] at hc hEA
      have p0 := hc 0 _ rfl
      have p1 := hc 1 _ rfl
      have p2 := hc 2 _ rfl
      have p3 := hc 3 _ rfl
      have p4 := hc 4 _ rfl
      have p5 := hc 5 _ rfl
      have p6 := hc 6 _ rfl
      have p7 := hc 7 _ rfl
      simp only [Nat.add_zero] at p0
      have hw1 := wtK_take hjL
      have hw2 := wtK_take_le ks (j + 1)
      have HQ := Lib.hid (And.intro hEA (And.intro (scK_take cons hjL i s) (show wtE ks[j] ≤ wtK ks by omega)))
      clear hEA hc ec hw1 hw2
      go_wp2_with fail
      refine (HO.out.1 _ (List.getElem_mem hjL) _ sb _ _ _ _ HS.out.1 HQ.out.1 (RowS.fr HT.out.2.1 HS.out.2 (fun _ q => q)) (by have := HE.out.2; have := HQ.out.2.2; omega)).mono ?_
      rintro e w7 ⟨rfl, h7, f7⟩
      have H7 := Lib.hid (And.intro h7 (HS.out.2.comp f7))
      clear h7 f7 p0 p1 p2 p3 p4 p5 p6 p7 t5 t7 tl
      go_wp2
      go_roundg (nk - (j + 1))
      case rel => exact ⟨j + 1, rfl, by omega, by simp, Lib.hid ⟨by rw [HQ.out.2.1]; exact H7.out.1, H7.out.2⟩⟩
      case measure => omega
    · have j1 : ¬ (j : Int) < (nk : Int) := by omega
      obtain rfl : nk = j := by omega
      have HF : Hid (SAt wr sb cons (scK cons ks i s) ∧ Fr (fun b => b = sb) wx wr) := Lib.hid (by
        have h := HS.out
        rw [List.take_of_length_le (by rw [HN.out.1]; exact Nat.le_refl _)] at h
        exact h)
      clear HS
      go_wp2_with fail
      have hal := salts_any (al := al) (ac := ac) HO.out.2.2 HF.out.1 (HR.out.2.2.2.2.2.1.fr (HT.out.2.2.2.comp HF.out.2) (fun _ q => q)) (fun j hj => lawA.fr (HR.out.2.2.2.2.2.2 j hj) (HT.out.2.2.2.comp HF.out.2) (fun _ q => q)) (RowS.fr HT.out.2.1 HF.out.2 (fun _ q => q)) (by have := HE.out.2; omega)
      rw [HN.out.2.2.1] at hal
      refine hal.mono ?_
      rintro e w8 ⟨rfl, h8, f8⟩
      have H8 := Lib.hid (And.intro h8 (HT.out.2.2.2.comp (HF.out.2.comp f8)))
      clear h8 f8 hal t5 t7 tl
      go_wp2
      go_end0
      exact ⟨rfl, by rw [← HRR.out, HE.out.1]; exact H8.out.1, H8.out.2⟩
set_option maxRecDepth 100000 in
set_option maxHeartbeats 8000000 in
theorem sc_lam {nm : List UInt8} {fl : Bool} {bi : Nat} {ps : List (List UInt8)} {ks : List TE} {bs : List TB} {al : List TA}  (hK : ∀ e ∈ ks, ScOk cons e) (hB : ∀ b ∈ bs, ScOk cons b.body) (hA : ∀ b ∈ al, ScOk cons b.body) : ScOk cons (.mk 8 nm fl bi ps ks bs al) := by
  intro w sb s i iv cs h hE hi hl9
  cases hE with
  | mk kc bc ac be ae bp an hp hk hk2 hb hb1 hb2 hb3 ha ha1 ha2 ha3 =>
  have hbb : ∀ j (h : j < bs.length), BAt (fun b => b = sb) w (bc j) bs[j] := fun j hj => ⟨bp j, be j, hb1 j hj, hb2 j hj, hb3 j hj⟩
  have haa : ∀ j (h : j < al.length), AAt (fun b => b = sb) w (ac j) al[j] := fun j hj => ⟨an j, ae j, ha1 j hj, ha2 j hj, ha3 j hj⟩
  obtain ⟨a0, c0, rfl⟩ := RowC.shape hp
  obtain ⟨a1, c1, rfl⟩ := hk.shape
  obtain ⟨a2, c2, rfl⟩ := hb.shape
  obtain ⟨a3, c3, rfl⟩ := ha.shape
  have hnk9 : ks.length ≤ 9223372036854775807 := by
    obtain ⟨_, _, e, q1, q2, _⟩ := hk
    unfold maxLen at q2
    omega
  have HR := Lib.hid (And.intro hp (And.intro hk (And.intro hk2 (And.intro hb (And.intro hbb (And.intro ha haa))))))
  obtain ⟨R, hR⟩ : ∃ R, scE cons (.mk 8 nm fl bi ps ks bs al) i s = R := ⟨_, rfl⟩
  rw [hR]
  have HRR := Lib.hid hR
  obtain ⟨ia, ic, rfl⟩ := RowC.shape hi
  obtain ⟨ni, hni⟩ : ∃ n, i.length = n := ⟨_, rfl⟩
  have hi' : RowS (fun b => b = sb) w (.slice ia ni ic) i := by rw [← hni]; exact hi
  have hlt := h.lt
  have hwt : i.length + (wtK ks + (wnB bs + bs.length) + wtA al + ps.length) ≤ 900000 := by
    have := wnB_eq bs
    unfold wtE at hl9
    omega
  have HH := Lib.hid (And.intro h (And.intro hi' (And.intro hni hwt)))
  have HO := Lib.hid (And.intro hK (And.intro hB hA))
  obtain ⟨nk, hnk⟩ : ∃ nk, ks.length = nk := ⟨_, rfl⟩
  obtain ⟨nb, hnb⟩ : ∃ nb, bs.length = nb := ⟨_, rfl⟩
  obtain ⟨na, hna⟩ : ∃ na, al.length = na := ⟨_, rfl⟩
  obtain ⟨np, hnp⟩ : ∃ np, ps.length = np := ⟨_, rfl⟩
  rw [hnk, hnb, hna, hnp, hni]
  rw [hnk] at hnk9
  have HN := Lib.hid (And.intro hnk (And.intro hnb (And.intro hna hnp)))
  clear hp hk hk2 hb hb1 hb2 hb3 ha ha1 ha2 ha3 hbb haa hR h hi hi' hni hl9 hwt hK hB hA hnk hnb hna hnp
  obtain ⟨T, hT⟩ : ∃ T, w.heap.size = T := ⟨_, rfl⟩
  have HTN := Lib.hid (show ¬ (fun b => b = sb) T ∧ w.heap.size = T from ⟨fun q => by have q' : T = sb := q; omega, hT⟩)
  obtain ⟨s1, hs1⟩ : ∃ s1, twF ps s = s1 := ⟨_, rfl⟩
  obtain ⟨i1, hi1⟩ : ∃ i1, i ++ ps = i1 := ⟨_, rfl⟩
  obtain ⟨n1, hn1⟩ : ∃ n, i1.length = n := ⟨_, rfl⟩
  have hl1 : i1.length = i.length + ps.length := by rw [← hi1, List.length_append]
  have HE := Lib.hid (show scE cons (.mk 8 nm fl bi ps ks bs al) i s = scA cons al i1 (scK cons ks i1 s1) ∧ i1.length + (wtK ks + wtA al) ≤ 900000 from ⟨by unfold scE; rw [if_neg (by decide), if_neg (by decide), if_neg (by decide), if_pos rfl, hs1, hi1], by have := HH.out.2.2.2; omega⟩)
  have HS1 := Lib.hid (And.intro hs1 (And.intro hi1 hn1))
  have hprow : RowS (fun b => b = sb) w (.slice a0 np c0) ps := by
    have h := HR.out.1
    rw [HN.out.2.2.2] at h
    exact h
  have HP := Lib.hid hprow
  clear hs1 hi1 hn1 hl1 hprow
  go_enter Try.func41, Try.ntmps41
  go_wp2_with fail
  obtain ⟨W1, hW1⟩ : ∃ W1, w.alloc (.cells #[.int .i64 8, .string ⟨nm.toArray⟩, .bool fl, .int .u64 (bi : Int), .slice a0 np c0, .slice a1 nk c1, .slice a2 nb c2, .slice a3 na c3] 32) = W1 := ⟨_, rfl⟩
  rw [hW1]
  have H1 := Lib.hid (And.intro (show Fr Nil w W1 by rw [← hW1]; (repeat (first | (with_reducible exact Fr.refl _ _) | (with_reducible assumption) | (with_reducible exact Fr.of_nil (by assumption)) | (with_reducible refine Fr.drew ?_) | (with_reducible refine Fr.drewN ?_ _) | (with_reducible refine Fr.alloc ?_ _) | (with_reducible refine Fr.set ?_ _ _ (by first | (intros; omega) | (simp; done) | (simp; omega))) | (with_reducible refine Fr.via ?_ (by assumption)) | (with_reducible refine Fr.comp ?_ (by assumption))))) (show Blk W1 T #[.int .i64 8, .string ⟨nm.toArray⟩, .bool fl, .int .u64 (bi : Int), .slice a0 np c0, .slice a1 nk c1, .slice a2 nb c2, .slice a3 na c3] 32 by rw [← hW1, ← hT]; exact Blk.new _ _ _))
  clear hW1
  refine (twice_any (HH.out.1.fr H1.out.1) (RowS.fr HP.out (S := Nil) H1.out.1 (fun _ q => q.elim)) (by have := HH.out.2.2.2; omega)).mono ?_
  rintro e w2 ⟨rfl, h2, f2⟩
  rw [HS1.out.1] at h2
  have b2 := f2.blk H1.out.2 HTN.out.1
  have t3 := b2.cell 3
  have t4 := b2.cell 4
  simp at t3 t4
  have tl2 := b2.lt
  have hsb2 := h2.lt
  have H2 := Lib.hid (And.intro h2 (And.intro ((Fr.of_nil (S := fun b => b = sb) H1.out.1).comp f2) b2))
  clear h2 f2 b2
  go_wp2_with fail
  refine (join10_row (sb := sb) (RowS.fr HH.out.2.1 H2.out.2.1 (fun _ q => q)) (RowS.fr HP.out H2.out.2.1 (fun _ q => q)) (by have := HH.out.2.2.2; omega) hsb2 HS1.out.2.1 HS1.out.2.2).mono ?_
  rintro e wx ⟨xa, xc, rfl, rx, fx⟩
  have HT := Lib.hid (And.intro (H2.out.1.fr fx) (And.intro rx (And.intro (fx.blk H2.out.2.2 (fun q => q)) (H2.out.2.1.comp (Fr.of_nil (S := fun b => b = sb) fx)))))
  clear rx fx t3 t4 tl2
  have htc : ∀ w', Fr (fun b => b = sb) wx w' → w'.cell? ⟨T, 5, none⟩ = some (.slice a1 nk c1) ∧ w'.cell? ⟨T, 7, none⟩ = some (.slice a3 na c3) ∧ T < w'.heap.size := fun w' f => by
    have b := f.blk HT.out.2.2.1 HTN.out.1
    exact ⟨by have := b.cell 5; simpa using this, by have := b.cell 7; simpa using this, b.lt⟩
  have HTC := Lib.hid htc
  obtain ⟨t5, t7, tl⟩ := HTC.out wx (Fr.refl _ _)
  clear htc
  go_wp2_with fail
  go_loopg [7] nk (fun g jv wr => ∃ j : Nat, g = nk - j ∧ j ≤ nk ∧ jv = .int .i64 (j : Int) ∧ Hid (SAt wr sb cons (scK cons (ks.take j) i1 s1) ∧ Fr (fun b => b = sb) wx wr))
  case atStart => exact ⟨0, rfl, by omega, rfl, Lib.hid ⟨by simpa [scK] using HT.out.1, Fr.refl _ _⟩⟩
  case round =>
    clear t5 t7 tl
    obtain ⟨j, rfl, hjn, rfl, HS⟩ := hrel
    have j0 : (0 : Int) ≤ (j : Int) := by omega
    obtain ⟨t5, t7, tl⟩ := HTC.out wr HS.out.2
    by_cases hlt : j < nk
    · have hjL : j < ks.length := by rw [HN.out.1]; exact hlt
      have wk : IntKind.i64.wrap ((j : Int) + 1) = (j : Int) + 1 := by rw [IntKind.wrap_i64]; omega
      have j1 : (j : Int) < (nk : Int) := by omega
      obtain ⟨b, off, rfl, hbs, hc⟩ := (HR.out.2.1.fr (HT.out.2.2.2.comp HS.out.2) (fun _ q => q)).at hjL
      have hEA := (HR.out.2.2.1 j hjL).fr (HT.out.2.2.2.comp HS.out.2) (fun _ q => q)
      obtain ⟨k', nm', fl', bi', b0, m0, d0, b1, m1, d1, b2, m2, d2, b3, m3, d3, ec⟩ := hEA.formE
      rw [ec] at hc hEA
      have p0 := hc 0 _ rfl
      have p1 := hc 1 _ rfl
      have p2 := hc 2 _ rfl
      have p3 := hc 3 _ rfl
      have p4 := hc 4 _ rfl
      have p5 := hc 5 _ rfl
      have p6 := hc 6 _ rfl
      have p7 := hc 7 _ rfl
      simp only [Nat.add_zero] at p0
      have hw1 := wtK_take hjL
      have hw2 := wtK_take_le ks (j + 1)
      have HQ := Lib.hid (And.intro hEA (And.intro (scK_take cons hjL i1 s1) (show wtE ks[j] ≤ wtK ks by omega)))
      clear hEA hc ec hw1 hw2
      go_wp2_with fail
      refine (HO.out.1 _ (List.getElem_mem hjL) _ sb _ _ _ _ HS.out.1 HQ.out.1 (RowS.fr HT.out.2.1 HS.out.2 (fun _ q => q)) (by have := HE.out.2; have := HQ.out.2.2; omega)).mono ?_
      rintro e w7 ⟨rfl, h7, f7⟩
      have H7 := Lib.hid (And.intro h7 (HS.out.2.comp f7))
      clear h7 f7 p0 p1 p2 p3 p4 p5 p6 p7 t5 t7 tl
      go_wp2
      go_roundg (nk - (j + 1))
      case rel => exact ⟨j + 1, rfl, by omega, by simp, Lib.hid ⟨by rw [HQ.out.2.1]; exact H7.out.1, H7.out.2⟩⟩
      case measure => omega
    · have j1 : ¬ (j : Int) < (nk : Int) := by omega
      obtain rfl : nk = j := by omega
      have HF : Hid (SAt wr sb cons (scK cons ks i1 s1) ∧ Fr (fun b => b = sb) wx wr) := Lib.hid (by
        have h := HS.out
        rw [List.take_of_length_le (by rw [HN.out.1]; exact Nat.le_refl _)] at h
        exact h)
      clear HS
      go_wp2_with fail
      have hal := salts_any (al := al) (ac := ac) HO.out.2.2 HF.out.1 (HR.out.2.2.2.2.2.1.fr (HT.out.2.2.2.comp HF.out.2) (fun _ q => q)) (fun j hj => lawA.fr (HR.out.2.2.2.2.2.2 j hj) (HT.out.2.2.2.comp HF.out.2) (fun _ q => q)) (RowS.fr HT.out.2.1 HF.out.2 (fun _ q => q)) (by have := HE.out.2; omega)
      rw [HN.out.2.2.1] at hal
      refine hal.mono ?_
      rintro e w8 ⟨rfl, h8, f8⟩
      have H8 := Lib.hid (And.intro h8 (HT.out.2.2.2.comp (HF.out.2.comp f8)))
      clear h8 f8 hal t5 t7 tl
      go_wp2
      go_end0
      exact ⟨rfl, by rw [← HRR.out, HE.out.1]; exact H8.out.1, H8.out.2⟩
set_option maxRecDepth 100000 in
set_option maxHeartbeats 8000000 in
theorem sc_let {nm : List UInt8} {fl : Bool} {bi : Nat} {ps : List (List UInt8)} {ks : List TE} {bs : List TB} {al : List TA}  (hK : ∀ e ∈ ks, ScOk cons e) (hB : ∀ b ∈ bs, ScOk cons b.body) (hA : ∀ b ∈ al, ScOk cons b.body) : ScOk cons (.mk 6 nm fl bi ps ks bs al) := by
  intro w sb s i iv cs h hE hi hl9
  cases hE with
  | mk kc bc ac be ae bp an hp hk hk2 hb hb1 hb2 hb3 ha ha1 ha2 ha3 =>
  have hbb : ∀ j (h : j < bs.length), BAt (fun b => b = sb) w (bc j) bs[j] := fun j hj => ⟨bp j, be j, hb1 j hj, hb2 j hj, hb3 j hj⟩
  have haa : ∀ j (h : j < al.length), AAt (fun b => b = sb) w (ac j) al[j] := fun j hj => ⟨an j, ae j, ha1 j hj, ha2 j hj, ha3 j hj⟩
  obtain ⟨a0, c0, rfl⟩ := RowC.shape hp
  obtain ⟨a1, c1, rfl⟩ := hk.shape
  obtain ⟨a2, c2, rfl⟩ := hb.shape
  obtain ⟨a3, c3, rfl⟩ := ha.shape
  have hnk9 : ks.length ≤ 9223372036854775807 := by
    obtain ⟨_, _, e, q1, q2, _⟩ := hk
    unfold maxLen at q2
    omega
  have HR := Lib.hid (And.intro hp (And.intro hk (And.intro hk2 (And.intro hb (And.intro hbb (And.intro ha haa))))))
  obtain ⟨R, hR⟩ : ∃ R, scE cons (.mk 6 nm fl bi ps ks bs al) i s = R := ⟨_, rfl⟩
  rw [hR]
  have HRR := Lib.hid hR
  obtain ⟨ia, ic, rfl⟩ := RowC.shape hi
  obtain ⟨ni, hni⟩ : ∃ n, i.length = n := ⟨_, rfl⟩
  have hi' : RowS (fun b => b = sb) w (.slice ia ni ic) i := by rw [← hni]; exact hi
  have hlt := h.lt
  have hwt : i.length + (wtK ks + (wnB bs + bs.length) + wtA al + ps.length) ≤ 900000 := by
    have := wnB_eq bs
    unfold wtE at hl9
    omega
  have HH := Lib.hid (And.intro h (And.intro hi' (And.intro hni hwt)))
  have HO := Lib.hid (And.intro hK (And.intro hB hA))
  obtain ⟨nk, hnk⟩ : ∃ nk, ks.length = nk := ⟨_, rfl⟩
  obtain ⟨nb, hnb⟩ : ∃ nb, bs.length = nb := ⟨_, rfl⟩
  obtain ⟨na, hna⟩ : ∃ na, al.length = na := ⟨_, rfl⟩
  obtain ⟨np, hnp⟩ : ∃ np, ps.length = np := ⟨_, rfl⟩
  rw [hnk, hnb, hna, hnp, hni]
  rw [hnk] at hnk9
  have HN := Lib.hid (And.intro hnk (And.intro hnb (And.intro hna hnp)))
  clear hp hk hk2 hb hb1 hb2 hb3 ha ha1 ha2 ha3 hbb haa hR h hi hi' hni hl9 hwt hK hB hA hnk hnb hna hnp
  obtain ⟨T, hT⟩ : ∃ T, w.heap.size = T := ⟨_, rfl⟩
  have HTN := Lib.hid (show ¬ (fun b => b = sb) T ∧ w.heap.size = T from ⟨fun q => by have q' : T = sb := q; omega, hT⟩)
  obtain ⟨s2, hs2⟩ : ∃ s1, twF (nmB bs) s = s1 := ⟨_, rfl⟩
  obtain ⟨i1, hi1⟩ : ∃ i1, i ++ nmB bs = i1 := ⟨_, rfl⟩
  obtain ⟨s1, hs1⟩ : ∃ s1, scB cons bs i1 s2 = s1 := ⟨_, rfl⟩
  obtain ⟨n1, hn1⟩ : ∃ n, i1.length = n := ⟨_, rfl⟩
  have hnm : (nmB bs).length = bs.length := by simp [nmB]
  have hl1 : i1.length = i.length + bs.length := by rw [← hi1, List.length_append, hnm]
  have HE := Lib.hid (show scE cons (.mk 6 nm fl bi ps ks bs al) i s = scA cons al i1 (scK cons ks i1 s1) ∧ i1.length + (wtK ks + wtA al) ≤ 900000 from ⟨by unfold scE; rw [if_neg (by decide), if_neg (by decide), if_pos rfl, hs2, hi1, hs1], by have := HH.out.2.2.2; omega⟩)
  have HS1 := Lib.hid (And.intro hs1 (And.intro hi1 (And.intro hn1 (And.intro hs2 (And.intro hnm hl1)))))
  clear hs1 hi1 hn1 hl1 hs2 hnm
  go_enter Try.func41, Try.ntmps41
  go_wp2_with fail
  obtain ⟨W1, hW1⟩ : ∃ W1, w.alloc (.cells #[.int .i64 6, .string ⟨nm.toArray⟩, .bool fl, .int .u64 (bi : Int), .slice a0 np c0, .slice a1 nk c1, .slice a2 nb c2, .slice a3 na c3] 32) = W1 := ⟨_, rfl⟩
  rw [hW1]
  have H1 := Lib.hid (And.intro (show Fr Nil w W1 by rw [← hW1]; (repeat (first | (with_reducible exact Fr.refl _ _) | (with_reducible assumption) | (with_reducible exact Fr.of_nil (by assumption)) | (with_reducible refine Fr.drew ?_) | (with_reducible refine Fr.drewN ?_ _) | (with_reducible refine Fr.alloc ?_ _) | (with_reducible refine Fr.set ?_ _ _ (by first | (intros; omega) | (simp; done) | (simp; omega))) | (with_reducible refine Fr.via ?_ (by assumption)) | (with_reducible refine Fr.comp ?_ (by assumption))))) (show Blk W1 T #[.int .i64 6, .string ⟨nm.toArray⟩, .bool fl, .int .u64 (bi : Int), .slice a0 np c0, .slice a1 nk c1, .slice a2 nb c2, .slice a3 na c3] 32 by rw [← hW1, ← hT]; exact Blk.new _ _ _))
  clear hW1
  have hbr : BindsAt (fun b => b = sb) W1 (.slice a2 nb c2) bs := ⟨bc, by have h := HR.out.2.2.2.1.fr H1.out.1 (fun _ q => q.elim); rw [HN.out.2.1] at h ⊢; exact h, fun j hj => lawB.fr (HR.out.2.2.2.2.1 j hj) H1.out.1 (fun _ q => q.elim)⟩
  refine (names10_any hbr (by have := HH.out.2.2.2; omega)).mono ?_
  rintro e w2 ⟨v2, rfl, own2, f2⟩
  obtain ⟨ma, mc, rfl⟩ := owns_shape own2
  have hw2 : sb < W1.heap.size := by have := H1.out.1.size; omega
  have r2 : RowS (fun b => b = sb) w2 (.slice ma nb mc) (nmB bs) := by
    have h : RowS (fun b => b = sb) w2 _ (nmB bs) := RowC.mono (owns_row own2) (by decide) (fun b _ q => by have q' : b = sb := q; omega)
    rw [HS1.out.2.2.2.2.1, HN.out.2.1] at h
    exact h
  rw [HS1.out.2.2.2.2.1, HN.out.2.1]
  have b2 := f2.blk H1.out.2 (fun q => q)
  have H2 := Lib.hid (And.intro r2 (And.intro (H1.out.1.comp f2) b2))
  clear own2 f2 r2 b2 hbr
  go_wp2_with fail
  refine (twice_any (HH.out.1.fr H2.out.2.1) H2.out.1 (by have := HS1.out.2.2.2.2.1; have := HH.out.2.2.2; omega)).mono ?_
  rintro e w3 ⟨rfl, h3, f3⟩
  rw [HS1.out.2.2.2.1] at h3
  have hsb3 := h3.lt
  have H3 := Lib.hid (And.intro h3 (And.intro ((Fr.of_nil (S := fun b => b = sb) H2.out.2.1).comp f3) (And.intro (f3.blk H2.out.2.2 HTN.out.1) (RowS.fr H2.out.1 f3 (fun _ q => q)))))
  clear h3 f3
  go_wp2_with fail
  refine (join10_row (sb := sb) (RowS.fr HH.out.2.1 H3.out.2.1 (fun _ q => q)) H3.out.2.2.2 (by have := HS1.out.2.2.2.2.1; have := HH.out.2.2.2; omega) hsb3 HS1.out.2.1 HS1.out.2.2.1).mono ?_
  rintro e w4 ⟨xa, xc, rfl, rx, fx⟩
  have b4 := fx.blk H3.out.2.2.1 (fun q => q)
  have t6 := b4.cell 6
  simp at t6
  have tl4 := b4.lt
  have H4 := Lib.hid (And.intro (H3.out.1.fr fx) (And.intro rx (And.intro b4 (H3.out.2.1.comp (Fr.of_nil (S := fun b => b = sb) fx)))))
  clear rx fx b4
  go_wp2_with fail
  have hbd := sbinds_any (bs := bs) (bc := bc) HO.out.2.1 H4.out.1 (HR.out.2.2.2.1.fr H4.out.2.2.2 (fun _ q => q)) (fun j hj => lawB.fr (HR.out.2.2.2.2.1 j hj) H4.out.2.2.2 (fun _ q => q)) H4.out.2.1 (by have := HS1.out.2.2.2.2.2; have := HH.out.2.2.2; omega)
  rw [HN.out.2.1, HS1.out.1] at hbd
  refine hbd.mono ?_
  rintro e wx ⟨rfl, hx, fx⟩
  have HT := Lib.hid (And.intro hx (And.intro (RowS.fr H4.out.2.1 fx (fun _ q => q)) (And.intro (fx.blk H4.out.2.2.1 HTN.out.1) (H4.out.2.2.2.comp fx))))
  clear hx fx t6 tl4 hbd
  have htc : ∀ w', Fr (fun b => b = sb) wx w' → w'.cell? ⟨T, 5, none⟩ = some (.slice a1 nk c1) ∧ w'.cell? ⟨T, 7, none⟩ = some (.slice a3 na c3) ∧ T < w'.heap.size := fun w' f => by
    have b := f.blk HT.out.2.2.1 HTN.out.1
    exact ⟨by have := b.cell 5; simpa using this, by have := b.cell 7; simpa using this, b.lt⟩
  have HTC := Lib.hid htc
  obtain ⟨t5, t7, tl⟩ := HTC.out wx (Fr.refl _ _)
  clear htc
  go_wp2_with fail
  go_loopg [7] nk (fun g jv wr => ∃ j : Nat, g = nk - j ∧ j ≤ nk ∧ jv = .int .i64 (j : Int) ∧ Hid (SAt wr sb cons (scK cons (ks.take j) i1 s1) ∧ Fr (fun b => b = sb) wx wr))
  case atStart => exact ⟨0, rfl, by omega, rfl, Lib.hid ⟨by simpa [scK] using HT.out.1, Fr.refl _ _⟩⟩
  case round =>
    clear t5 t7 tl
    obtain ⟨j, rfl, hjn, rfl, HS⟩ := hrel
    have j0 : (0 : Int) ≤ (j : Int) := by omega
    obtain ⟨t5, t7, tl⟩ := HTC.out wr HS.out.2
    by_cases hlt : j < nk
    · have hjL : j < ks.length := by rw [HN.out.1]; exact hlt
      have wk : IntKind.i64.wrap ((j : Int) + 1) = (j : Int) + 1 := by rw [IntKind.wrap_i64]; omega
      have j1 : (j : Int) < (nk : Int) := by omega
      obtain ⟨b, off, rfl, hbs, hc⟩ := (HR.out.2.1.fr (HT.out.2.2.2.comp HS.out.2) (fun _ q => q)).at hjL
      have hEA := (HR.out.2.2.1 j hjL).fr (HT.out.2.2.2.comp HS.out.2) (fun _ q => q)
      obtain ⟨k', nm', fl', bi', b0, m0, d0, b1, m1, d1, b2, m2, d2, b3, m3, d3, ec⟩ := hEA.formE
      rw [ec] at hc hEA
      have p0 := hc 0 _ rfl
      have p1 := hc 1 _ rfl
      have p2 := hc 2 _ rfl
      have p3 := hc 3 _ rfl
      have p4 := hc 4 _ rfl
      have p5 := hc 5 _ rfl
      have p6 := hc 6 _ rfl
      have p7 := hc 7 _ rfl
      simp only [Nat.add_zero] at p0
      have hw1 := wtK_take hjL
      have hw2 := wtK_take_le ks (j + 1)
      have HQ := Lib.hid (And.intro hEA (And.intro (scK_take cons hjL i1 s1) (show wtE ks[j] ≤ wtK ks by omega)))
      clear hEA hc ec hw1 hw2
      go_wp2_with fail
      refine (HO.out.1 _ (List.getElem_mem hjL) _ sb _ _ _ _ HS.out.1 HQ.out.1 (RowS.fr HT.out.2.1 HS.out.2 (fun _ q => q)) (by have := HE.out.2; have := HQ.out.2.2; omega)).mono ?_
      rintro e w7 ⟨rfl, h7, f7⟩
      have H7 := Lib.hid (And.intro h7 (HS.out.2.comp f7))
      clear h7 f7 p0 p1 p2 p3 p4 p5 p6 p7 t5 t7 tl
      go_wp2
      go_roundg (nk - (j + 1))
      case rel => exact ⟨j + 1, rfl, by omega, by simp, Lib.hid ⟨by rw [HQ.out.2.1]; exact H7.out.1, H7.out.2⟩⟩
      case measure => omega
    · have j1 : ¬ (j : Int) < (nk : Int) := by omega
      obtain rfl : nk = j := by omega
      have HF : Hid (SAt wr sb cons (scK cons ks i1 s1) ∧ Fr (fun b => b = sb) wx wr) := Lib.hid (by
        have h := HS.out
        rw [List.take_of_length_le (by rw [HN.out.1]; exact Nat.le_refl _)] at h
        exact h)
      clear HS
      go_wp2_with fail
      have hal := salts_any (al := al) (ac := ac) HO.out.2.2 HF.out.1 (HR.out.2.2.2.2.2.1.fr (HT.out.2.2.2.comp HF.out.2) (fun _ q => q)) (fun j hj => lawA.fr (HR.out.2.2.2.2.2.2 j hj) (HT.out.2.2.2.comp HF.out.2) (fun _ q => q)) (RowS.fr HT.out.2.1 HF.out.2 (fun _ q => q)) (by have := HE.out.2; omega)
      rw [HN.out.2.2.1] at hal
      refine hal.mono ?_
      rintro e w8 ⟨rfl, h8, f8⟩
      have H8 := Lib.hid (And.intro h8 (HT.out.2.2.2.comp (HF.out.2.comp f8)))
      clear h8 f8 hal t5 t7 tl
      go_wp2
      go_end0
      exact ⟨rfl, by rw [← HRR.out, HE.out.1]; exact H8.out.1, H8.out.2⟩
theorem sc_all : ∀ (m : Nat) (e : TE), szE e ≤ m → ScOk cons e := by
  intro m
  induction m with
  | zero =>
    intro e he
    cases e with
    | mk k nm fl bi ps ks bs al =>
      have e1 : szE (.mk k nm fl bi ps ks bs al) = 1 + szK ks + szB bs + szA al := rfl
      omega
  | succ m ih =>
    intro e he
    cases e with
    | mk k nm fl bi ps ks bs al =>
      have e1 : szE (.mk k nm fl bi ps ks bs al) = 1 + szK ks + szB bs + szA al := rfl
      have hK : ∀ e ∈ ks, ScOk cons e := fun e h => ih e (by have := mem_szK h; omega)
      have hB : ∀ b ∈ bs, ScOk cons b.body := fun b h => ih b.body (by have := mem_szB h; omega)
      have hA : ∀ b ∈ al, ScOk cons b.body := fun b h => ih b.body (by have := mem_szA h; omega)
      by_cases h1 : k = 1
      · subst h1; exact sc_var hK hB hA
      by_cases h2 : k = 2
      · subst h2; exact sc_con hK hB hA
      by_cases h6 : k = 6
      · subst h6; exact sc_let hK hB hA
      by_cases h8 : k = 8
      · subst h8; exact sc_lam hK hB hA
      exact sc_else h1 h2 h6 h8 hK hB hA
end
end Go.Proofs.Ythpenpgcacikaaa
