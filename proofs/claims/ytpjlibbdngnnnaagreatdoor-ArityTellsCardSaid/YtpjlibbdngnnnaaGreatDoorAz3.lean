/-
  The document's arity (layer 11): a module's first fault. Conditions: a module as a source tells it.
-/
import Derived.Test.YtpjlibbdngnnnaaGreatDoorAzP
import Derived.Test.YtpjlibbdngnnnaaGreatDoorSz
namespace Go.Proofs.YtpjlibbdngnnnaaGreatDoor
set_option linter.unusedSimpArgs false
set_option linter.unusedVariables false
open Go.RowKit

section
variable {w : World} {m : TM} {c1 : Option Addr} {c2 : Nat}
set_option maxRecDepth 100000 in
set_option maxHeartbeats 8000000 in
theorem zcheck_any {b1 : Option Addr} {nb b2 nc : Nat} (hm : ModV (fun _ => False) w c1 nc c2 b1 nb b2 m) (hws : wsB m.binds) (hl9 : m.cons.length ≤ 100000) (hl8 : m.binds.length + wnB m.binds ≤ 700000) :
    Calls Tryz.prog 16 #[.agg #[.slice c1 nc c2, .slice b1 nb b2]] w fun r w' => r = .returned (.tuple #[.int .i64 ((zF m).1 : Int), .string ⟨(zF m).2.toArray⟩]) ∧ Fr Nil w w' := by
  obtain ⟨⟨RE, RN⟩, hR⟩ : ∃ R, chkF m = R := ⟨_, rfl⟩
  obtain ⟨⟨SE, SN⟩, hS⟩ : ∃ R, zF m = R := ⟨_, rfl⟩
  rw [hS]
  have HM := Lib.hid (And.intro hm (And.intro hws (And.intro hl9 (And.intro hl8 (And.intro hR hS)))))
  clear hm hws hl9 hl8 hR hS
  obtain ⟨T, hTs⟩ : ∃ T, w.heap.size = T := ⟨_, rfl⟩
  go_enter Tryz.func16, Tryz.ntmps16
  go_wp2_with fail
  obtain ⟨W1, hW1⟩ : ∃ W1, w.alloc (.cells #[.slice c1 nc c2, .slice b1 nb b2] 26) = W1 := ⟨_, rfl⟩
  try rw [hTs]
  rw [hW1]
  have f1 : Fr Nil w W1 := by rw [← hW1]; (repeat (first | (with_reducible exact Fr.refl _ _) | (with_reducible assumption) | (with_reducible exact Fr.of_nil (by assumption)) | (with_reducible refine Fr.drew ?_) | (with_reducible refine Fr.drewN ?_ _) | (with_reducible refine Fr.alloc ?_ _) | (with_reducible refine Fr.set ?_ _ _ (by first | (intros; omega) | (simp; done) | (simp; omega))) | (with_reducible refine Fr.via ?_ (by assumption)) | (with_reducible refine Fr.comp ?_ (by assumption))))
  have bT : Blk W1 T #[.slice c1 nc c2, .slice b1 nb b2] 26 := by rw [← hW1, ← hTs]; exact Blk.new _ _ _
  have hck := rcheck_any (HM.out.1.fr f1 (fun _ q => q.elim)) HM.out.2.2.1 (by have := HM.out.2.2.2.1; omega)
  rw [HM.out.2.2.2.2.1] at hck
  have HK := Lib.hid hck
  have H1 := Lib.hid (And.intro f1 (And.intro bT hTs))
  clear hW1 f1 bT hck hTs
  refine HK.out.mono ?_
  rintro e w2 ⟨rfl, f2⟩
  have bT2 := f2.blk H1.out.2.1 (fun q => q)
  have t0 := bT2.cell 0
  have t1 := bT2.cell 1
  simp at t0 t1
  have tl := bT2.lt
  have hT2 : w.heap.size ≤ T ∧ T < w2.heap.size := ⟨by have := H1.out.2.2; omega, tl⟩
  have H2 := Lib.hid (And.intro (H1.out.1.comp f2) (And.intro bT2 hT2))
  clear f2 bT2 HK hT2
  by_cases hr : RE = 0
  · subst hr
    have hv : zB (fullD m) m.binds (mnF m.binds noF) = (SE, SN) := by
      rw [← HM.out.2.2.2.2.2]
      unfold zF
      rw [if_pos (by rw [HM.out.2.2.2.2.1])]
    have HV := Lib.hid hv
    have hc1 := rcons_any (m := m) (b1 := b1) (nb := nb) (b2 := b2) (RowC.frN HM.out.1.1 H2.out.1) HM.out.1.2.1 HM.out.2.2.1
    have HC := Lib.hid hc1
    clear hv hc1
    go_wp2_with fail
    refine HC.out.mono ?_
    rintro e w3 ⟨v0, rfl, own0, f3⟩
    have hdF : DeclsAt (fun _ => False) w3 v0 (fullD m) := DeclsAt.of_own own0 (fun b q => q.elim)
    obtain ⟨va, vc, rfl⟩ := owns_shape own0
    obtain ⟨n4, hn4⟩ : ∃ n4, (fullD m).length = n4 := ⟨_, rfl⟩
    have hn49 : (fullD m).length ≤ 900000 := by
      have : (fullD m).length = 4 + m.cons.length := by simp [fullD]; omega
      have := HM.out.2.2.1
      omega
    rw [hn4] at hdF ⊢
    obtain ⟨A, hA⟩ : ∃ A, w3.heap.size = A := ⟨_, rfl⟩
    have hTA : T < A := by have := f3.size; have := H2.out.2.2.2; omega
    have H3 := Lib.hid (And.intro (H2.out.1.comp f3) (And.intro (f3.blk H2.out.2.1 (fun q => q)) (And.intro hdF (And.intro hn49 hA))))
    clear own0 hdF f3 hn4 hn49 HC t0 t1 tl
    go_upto_region 5 with fail
    try rw [hA]
    obtain ⟨W4, hW4⟩ : ∃ W4, w3.alloc (.cells #[.int .i64 0, .string ⟨#[]⟩, .slice va n4 vc] 93) = W4 := ⟨_, rfl⟩
    rw [hW4]
    have f4 : Fr Nil w3 W4 := by rw [← hW4]; (repeat (first | (with_reducible exact Fr.refl _ _) | (with_reducible assumption) | (with_reducible exact Fr.of_nil (by assumption)) | (with_reducible refine Fr.drew ?_) | (with_reducible refine Fr.drewN ?_ _) | (with_reducible refine Fr.alloc ?_ _) | (with_reducible refine Fr.set ?_ _ _ (by first | (intros; omega) | (simp; done) | (simp; omega))) | (with_reducible refine Fr.via ?_ (by assumption)) | (with_reducible refine Fr.comp ?_ (by assumption))))
    have b4 : Blk W4 A #[.int .i64 0, .string ⟨#[]⟩, .slice va n4 vc] 93 := by rw [← hW4, ← hA]; exact Blk.new _ _ _
    have hz4 : ZAt W4 A (fullD m) noF := ⟨_, b4, RowC.fr (RowC.mono H3.out.2.2.1 (by decide) (fun b hb q => by have q' : b = A := q; omega)) f4 (fun _ q => q.elim)⟩
    have bT4 := f4.blk H3.out.2.1 (fun q => q)
    obtain ⟨bc, hB1, hB2⟩ := HM.out.1.2.2.1
    have hB3 := HM.out.1.2.2.2
    rw [hB3] at hB1
    have fw4 := H3.out.1.comp f4
    have hwA : w.heap.size ≤ A := by have := H3.out.1.size; omega
    have hr4 : RowC (fun b => b = A) W4 (.slice b1 nb b2) nb 10 bc := (hB1.mono (by decide) (fun b hb q => by have q' : b = A := q; omega)).fr (S := Nil) fw4 (fun _ q => q.elim)
    have hb4 : ∀ i (h : i < m.binds.length), BAt (fun b => b = A) W4 (bc i) m.binds[i] := fun i hi => lawB.fr (lawB.mono (hB2 i hi) (fun b hb q => by have q' : b = A := q; omega)) fw4 (fun _ q => q.elim)
    have hnb9 := hr4.lenX
    have H4 := Lib.hid (And.intro fw4 (And.intro bT4 (And.intro hz4 (And.intro hr4 (And.intro hb4 (And.intro hB3 hwA))))))
    clear hW4 f4 b4 hz4 bT4 hB1 hB2 hB3 fw4 hr4 hb4 hA hwA
    go_wp2_with fail
    go_loopg [7] nb (fun g iv wr => ∃ k : Nat, g = nb - k ∧ k ≤ nb ∧ iv = .int .i64 (k : Int) ∧ Hid (ZAt wr A (fullD m) (mnF (m.binds.take k) noF) ∧ Fr (fun b => b = A) W4 wr))
    case atStart => exact ⟨0, rfl, by omega, rfl, Lib.hid ⟨H4.out.2.2.1.fr (by (repeat (first | (with_reducible exact Fr.refl _ _) | (with_reducible assumption) | (with_reducible exact Fr.of_nil (by assumption)) | (with_reducible refine Fr.drew ?_) | (with_reducible refine Fr.drewN ?_ _) | (with_reducible refine Fr.alloc ?_ _) | (with_reducible refine Fr.set ?_ _ _ (by first | (intros; omega) | (simp; done) | (simp; omega))) | (with_reducible refine Fr.via ?_ (by assumption)) | (with_reducible refine Fr.comp ?_ (by assumption))))), Fr.of_nil (by (repeat (first | (with_reducible exact Fr.refl _ _) | (with_reducible assumption) | (with_reducible exact Fr.of_nil (by assumption)) | (with_reducible refine Fr.drew ?_) | (with_reducible refine Fr.drewN ?_ _) | (with_reducible refine Fr.alloc ?_ _) | (with_reducible refine Fr.set ?_ _ _ (by first | (intros; omega) | (simp; done) | (simp; omega))) | (with_reducible refine Fr.via ?_ (by assumption)) | (with_reducible refine Fr.comp ?_ (by assumption)))))⟩⟩
    case round =>
      obtain ⟨kk, rfl, hk, rfl, HS⟩ := hrel
      obtain ⟨Vr, hVr⟩ : ∃ V, V = wr := ⟨_, rfl⟩
      subst hVr
      have j0 : (0 : Int) ≤ (kk : Int) := by omega
      have bT := HS.out.2.blk H4.out.2.1 (fun q => by have q' : T = A := q; omega)
      have t1 := bT.cell 1
      simp at t1
      have tl := bT.lt
      by_cases hlt : kk < nb
      · have hkL : kk < m.binds.length := by rw [H4.out.2.2.2.2.2.1]; exact hlt
        have wkk : IntKind.i64.wrap ((kk : Int) + 1) = (kk : Int) + 1 := by rw [IntKind.wrap_i64]; omega
        have j1 : (kk : Int) < (nb : Int) := by omega
        obtain ⟨b, off, rfl, hbx, hc⟩ := (H4.out.2.2.2.1.fr HS.out.2 (fun _ q => q)).at hlt
        have hBA := lawB.fr (H4.out.2.2.2.2.1 kk hkL) HS.out.2 (fun _ q => q)
        obtain ⟨bn, pa, pn, pc, k', nm', fl', bi', e0, m0, d0, e1, m1, d1, e2, m2, d2, e3, m3, d3, ec⟩ := hBA.formB
        rw [ec] at hc hBA
        obtain ⟨hrp, hE, etn⟩ := hBA.parts
        obtain ⟨x, hx⟩ : ∃ x, m.binds[kk].name = x := ⟨_, rfl⟩
        have hpn : m.binds[kk].params.length = pn := by
          obtain ⟨a9, c9, e9, _⟩ := hrp
          cases e9
          rfl
        have hms := mnF_take hkL noF
        have hmo : mnOk m.binds[kk] = (decide (x ≠ mainN) || decide (pn = 0)) := by unfold mnOk; rw [hx, hpn]
        rw [hmo, hx] at hms
        rw [hx] at etn
        subst etn
        have p0 := hc 0 _ rfl
        have p1 := hc 1 _ rfl
        simp only [Nat.add_zero] at p0
        have hbl : b < Vr.heap.size := World.block_lt_of_cell? _ _ p0
        clear hc ec hBA hrp hE hpn hx hmo bT
        by_cases hxm : x = mainN
        · subst hxm
          by_cases hp : pn = 0
          · subst hp
            have HT := Lib.hid (show mnF (m.binds.take (kk + 1)) noF = mnF (m.binds.take kk) noF from hms)
            clear hms
            go_wp2
            go_roundg (nb - (kk + 1))
            case rel => exact ⟨kk + 1, rfl, by omega, by simp, Lib.hid ⟨by rw [HT.out]; exact HS.out.1.fr (by (repeat (first | (with_reducible exact Fr.refl _ _) | (with_reducible assumption) | (with_reducible exact Fr.of_nil (by assumption)) | (with_reducible refine Fr.drew ?_) | (with_reducible refine Fr.drewN ?_ _) | (with_reducible refine Fr.alloc ?_ _) | (with_reducible refine Fr.set ?_ _ _ (by first | (intros; omega) | (simp; done) | (simp; omega))) | (with_reducible refine Fr.via ?_ (by assumption)) | (with_reducible refine Fr.comp ?_ (by assumption))))), HS.out.2.comp (Fr.of_nil (by (repeat (first | (with_reducible exact Fr.refl _ _) | (with_reducible assumption) | (with_reducible exact Fr.of_nil (by assumption)) | (with_reducible refine Fr.drew ?_) | (with_reducible refine Fr.drewN ?_ _) | (with_reducible refine Fr.alloc ?_ _) | (with_reducible refine Fr.set ?_ _ _ (by first | (intros; omega) | (simp; done) | (simp; omega))) | (with_reducible refine Fr.via ?_ (by assumption)) | (with_reducible refine Fr.comp ?_ (by assumption))))))⟩⟩
            case measure => omega
          · have i5 : (0 : Int) < (pn : Int) := by omega
            have i5n : 0 < pn := by omega
            have HT := Lib.hid (show mnF (m.binds.take (kk + 1)) noF = fltS (mnF (m.binds.take kk) noF) 11 mainN by rw [hms, decide_eq_false hp]; rfl)
            have HF := Lib.hid (fun w' (f : Fr Nil Vr w') => zfault_any (HS.out.1.fr f) 11 mainN)
            clear hms hp
            go_wp2_with fail
            refine (HF.out _ (by (repeat (first | (with_reducible exact Fr.refl _ _) | (with_reducible assumption) | (with_reducible exact Fr.of_nil (by assumption)) | (with_reducible refine Fr.drew ?_) | (with_reducible refine Fr.drewN ?_ _) | (with_reducible refine Fr.alloc ?_ _) | (with_reducible refine Fr.set ?_ _ _ (by first | (intros; omega) | (simp; done) | (simp; omega))) | (with_reducible refine Fr.via ?_ (by assumption)) | (with_reducible refine Fr.comp ?_ (by assumption)))))).mono ?_
            rintro e w6 ⟨rfl, h6, f6⟩
            have H6 := Lib.hid (And.intro h6 (Fr.comp (S := fun b => b = A) (Fr.of_nil (by (repeat (first | (with_reducible exact Fr.refl _ _) | (with_reducible assumption) | (with_reducible exact Fr.of_nil (by assumption)) | (with_reducible refine Fr.drew ?_) | (with_reducible refine Fr.drewN ?_ _) | (with_reducible refine Fr.alloc ?_ _) | (with_reducible refine Fr.set ?_ _ _ (by first | (intros; omega) | (simp; done) | (simp; omega))) | (with_reducible refine Fr.via ?_ (by assumption)) | (with_reducible refine Fr.comp ?_ (by assumption)))))) f6 : Fr (fun b => b = A) Vr w6))
            clear h6 f6
            go_wp2
            go_roundg (nb - (kk + 1))
            case rel => exact ⟨kk + 1, rfl, by omega, by simp, Lib.hid ⟨by rw [HT.out]; exact H6.out.1, HS.out.2.comp H6.out.2⟩⟩
            case measure => omega
        · have d4 : (x == mainN) = false := by simpa using hxm
          have d4' : (x == [109, 97, 105, 110]) = false := d4
          have HT := Lib.hid (show mnF (m.binds.take (kk + 1)) noF = mnF (m.binds.take kk) noF by rw [hms, decide_eq_true hxm]; rfl)
          clear hms hxm
          go_wp2
          go_roundg (nb - (kk + 1))
          case rel => exact ⟨kk + 1, rfl, by omega, by simp, Lib.hid ⟨by rw [HT.out]; exact HS.out.1.fr (by (repeat (first | (with_reducible exact Fr.refl _ _) | (with_reducible assumption) | (with_reducible exact Fr.of_nil (by assumption)) | (with_reducible refine Fr.drew ?_) | (with_reducible refine Fr.drewN ?_ _) | (with_reducible refine Fr.alloc ?_ _) | (with_reducible refine Fr.set ?_ _ _ (by first | (intros; omega) | (simp; done) | (simp; omega))) | (with_reducible refine Fr.via ?_ (by assumption)) | (with_reducible refine Fr.comp ?_ (by assumption))))), HS.out.2.comp (Fr.of_nil (by (repeat (first | (with_reducible exact Fr.refl _ _) | (with_reducible assumption) | (with_reducible exact Fr.of_nil (by assumption)) | (with_reducible refine Fr.drew ?_) | (with_reducible refine Fr.drewN ?_ _) | (with_reducible refine Fr.alloc ?_ _) | (with_reducible refine Fr.set ?_ _ _ (by first | (intros; omega) | (simp; done) | (simp; omega))) | (with_reducible refine Fr.via ?_ (by assumption)) | (with_reducible refine Fr.comp ?_ (by assumption))))))⟩⟩
          case measure => omega
      · have j1 : ¬ (kk : Int) < (nb : Int) := by omega
        obtain rfl : nb = kk := by omega
        have hz5 : ZAt Vr A (fullD m) (mnF m.binds noF) := by
          have h := HS.out.1
          rw [List.take_of_length_le (by rw [H4.out.2.2.2.2.2.1]; exact Nat.le_refl _)] at h
          exact h
        have H5 := Lib.hid (And.intro hz5 (And.intro HS.out.2 bT))
        clear hz5 bT hlt hk j0
        go_wp2_with fail
        clear t1 tl j1
        go_loopg [8] nb (fun g iv wr => ∃ k : Nat, g = nb - k ∧ k ≤ nb ∧ iv = .int .i64 (k : Int) ∧ Hid (ZAt wr A (fullD m) (zB (fullD m) (m.binds.take k) (mnF m.binds noF)) ∧ Fr (fun b => b = A) Vr wr))
        case atStart => exact ⟨0, rfl, by omega, rfl, Lib.hid ⟨by rw [List.take_zero, zB]; exact H5.out.1.fr (by (repeat (first | (with_reducible exact Fr.refl _ _) | (with_reducible assumption) | (with_reducible exact Fr.of_nil (by assumption)) | (with_reducible refine Fr.drew ?_) | (with_reducible refine Fr.drewN ?_ _) | (with_reducible refine Fr.alloc ?_ _) | (with_reducible refine Fr.set ?_ _ _ (by first | (intros; omega) | (simp; done) | (simp; omega))) | (with_reducible refine Fr.via ?_ (by assumption)) | (with_reducible refine Fr.comp ?_ (by assumption))))), Fr.of_nil (by (repeat (first | (with_reducible exact Fr.refl _ _) | (with_reducible assumption) | (with_reducible exact Fr.of_nil (by assumption)) | (with_reducible refine Fr.drew ?_) | (with_reducible refine Fr.drewN ?_ _) | (with_reducible refine Fr.alloc ?_ _) | (with_reducible refine Fr.set ?_ _ _ (by first | (intros; omega) | (simp; done) | (simp; omega))) | (with_reducible refine Fr.via ?_ (by assumption)) | (with_reducible refine Fr.comp ?_ (by assumption)))))⟩⟩
        case round =>
          obtain ⟨kk, rfl, hk, rfl, HS⟩ := hrel
          obtain ⟨V5, hV5⟩ : ∃ V, V = wr := ⟨_, rfl⟩
          subst hV5
          have j0 : (0 : Int) ≤ (kk : Int) := by omega
          have bT := HS.out.2.blk H5.out.2.2 (fun q => by have q' : T = A := q; omega)
          have t1 := bT.cell 1
          simp at t1
          have tl := bT.lt
          by_cases hlt : kk < nb
          · have hkL : kk < m.binds.length := by rw [H4.out.2.2.2.2.2.1]; exact hlt
            have wkk : IntKind.i64.wrap ((kk : Int) + 1) = (kk : Int) + 1 := by rw [IntKind.wrap_i64]; omega
            have j1 : (kk : Int) < (nb : Int) := by omega
            have fwr : Fr (fun b => b = A) W4 V5 := H5.out.2.1.comp HS.out.2
            obtain ⟨b, off, rfl, hbx, hc⟩ := (H4.out.2.2.2.1.fr fwr (fun _ q => q)).at hlt
            have hBA := lawB.fr (H4.out.2.2.2.2.1 kk hkL) fwr (fun _ q => q)
            obtain ⟨bn, pa, pn, pc, k', nm', fl', bi', e0, m0, d0, e1, m1, d1, e2, m2, d2, e3, m3, d3, ec⟩ := hBA.formB
            rw [ec] at hc hBA
            have hcs := zB_take (fullD m) hkL (mnF m.binds noF)
            have HX := Lib.hid (And.intro hcs (And.intro (z_all H3.out.2.2.2.1 _ _ (Nat.le_refl _) (wsB_mem HM.out.2.1 (List.getElem_mem hkL))) hBA))
            have p0 := hc 0 _ rfl
            have p1 := hc 1 _ rfl
            have p2 := hc 2 _ rfl
            have p3 := hc 3 _ rfl
            have p4 := hc 4 _ rfl
            have p5 := hc 5 _ rfl
            have p6 := hc 6 _ rfl
            have p7 := hc 7 _ rfl
            have p8 := hc 8 _ rfl
            have p9 := hc 9 _ rfl
            simp only [Nat.add_zero] at p0
            have hbl : b < V5.heap.size := World.block_lt_of_cell? _ _ p0
            clear hc ec hBA hcs fwr bT
            go_wp2_with fail
            refine (zbind_any HX.out.2.1 (HS.out.1.fr (by (repeat (first | (with_reducible exact Fr.refl _ _) | (with_reducible assumption) | (with_reducible exact Fr.of_nil (by assumption)) | (with_reducible refine Fr.drew ?_) | (with_reducible refine Fr.drewN ?_ _) | (with_reducible refine Fr.alloc ?_ _) | (with_reducible refine Fr.set ?_ _ _ (by first | (intros; omega) | (simp; done) | (simp; omega))) | (with_reducible refine Fr.via ?_ (by assumption)) | (with_reducible refine Fr.comp ?_ (by assumption)))))) (lawB.fr HX.out.2.2 (S := Nil) (by (repeat (first | (with_reducible exact Fr.refl _ _) | (with_reducible assumption) | (with_reducible exact Fr.of_nil (by assumption)) | (with_reducible refine Fr.drew ?_) | (with_reducible refine Fr.drewN ?_ _) | (with_reducible refine Fr.alloc ?_ _) | (with_reducible refine Fr.set ?_ _ _ (by first | (intros; omega) | (simp; done) | (simp; omega))) | (with_reducible refine Fr.via ?_ (by assumption)) | (with_reducible refine Fr.comp ?_ (by assumption))))) (fun _ q => q.elim))).mono ?_
            rintro e w6 ⟨rfl, h6, f6⟩
            have H6 := Lib.hid (And.intro h6 (Fr.comp (S := fun b => b = A) (Fr.of_nil (by (repeat (first | (with_reducible exact Fr.refl _ _) | (with_reducible assumption) | (with_reducible exact Fr.of_nil (by assumption)) | (with_reducible refine Fr.drew ?_) | (with_reducible refine Fr.drewN ?_ _) | (with_reducible refine Fr.alloc ?_ _) | (with_reducible refine Fr.set ?_ _ _ (by first | (intros; omega) | (simp; done) | (simp; omega))) | (with_reducible refine Fr.via ?_ (by assumption)) | (with_reducible refine Fr.comp ?_ (by assumption)))))) f6 : Fr (fun b => b = A) V5 w6))
            clear h6 f6
            go_wp2
            go_roundg (nb - (kk + 1))
            case rel => exact ⟨kk + 1, rfl, by omega, by simp, Lib.hid ⟨by rw [HX.out.1]; exact H6.out.1, HS.out.2.comp H6.out.2⟩⟩
            case measure => omega
          · have j1 : ¬ (kk : Int) < (nb : Int) := by omega
            obtain rfl : nb = kk := by omega
            have hz6 : ZAt V5 A (fullD m) (SE, SN) := by
              have h := HS.out.1
              rw [List.take_of_length_le (by rw [H4.out.2.2.2.2.2.1]; exact Nat.le_refl _), HV.out] at h
              exact h
            obtain ⟨cv, hb9, _⟩ := hz6
            have y0 := hb9.cell 0
            have y1 := hb9.cell 1
            simp at y0 y1
            have yl := hb9.lt
            have fw9 : Fr Nil w V5 := H4.out.1.trans (H5.out.2.1.comp HS.out.2) (fun b hb q => by have q' : b = A := q; have := H4.out.2.2.2.2.2.2; omega)
            have H9 := Lib.hid fw9
            clear hb9 fw9 bT
            go_wp2_with fail
            go_quiet (fail)
            go_wp2
            go_ret2
            exact ⟨rfl, Fr.comp (S := Nil) H9.out (by (repeat (first | (with_reducible exact Fr.refl _ _) | (with_reducible assumption) | (with_reducible exact Fr.of_nil (by assumption)) | (with_reducible refine Fr.drew ?_) | (with_reducible refine Fr.drewN ?_ _) | (with_reducible refine Fr.alloc ?_ _) | (with_reducible refine Fr.set ?_ _ _ (by first | (intros; omega) | (simp; done) | (simp; omega))) | (with_reducible refine Fr.via ?_ (by assumption)) | (with_reducible refine Fr.comp ?_ (by assumption)))))⟩
  · have hv : (SE, SN) = (RE, RN) := by
      rw [← HM.out.2.2.2.2.2, ← HM.out.2.2.2.2.1]
      unfold zF
      rw [if_neg (by rw [HM.out.2.2.2.2.1]; exact hr)]
    injection hv with q1 q2
    subst q1 q2
    have d1 : ((SE : Int) == 0) = false := by rw [beq_eq_false_iff_ne]; omega
    have e1 : ¬ (SE : Int) = 0 := by omega
    clear hr
    go_wp2
    go_ret2
    exact ⟨rfl, Fr.comp (S := Nil) H2.out.1 (by (repeat (first | (with_reducible exact Fr.refl _ _) | (with_reducible assumption) | (with_reducible exact Fr.of_nil (by assumption)) | (with_reducible refine Fr.drew ?_) | (with_reducible refine Fr.drewN ?_ _) | (with_reducible refine Fr.alloc ?_ _) | (with_reducible refine Fr.set ?_ _ _ (by first | (intros; omega) | (simp; done) | (simp; omega))) | (with_reducible refine Fr.via ?_ (by assumption)) | (with_reducible refine Fr.comp ?_ (by assumption)))))⟩
end
end Go.Proofs.YtpjlibbdngnnnaaGreatDoor
