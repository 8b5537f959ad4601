/-
  Arity (layer 11): main without parameters; a module's first fault. Conditions: the listed variable errors.errorType; a module as a source tells it.
-/
import Derived.Test.YtpjlibbdngnnnaaDoorAr2
import Derived.Test.YtpjlibbdngnnnaaDoorL10
namespace Go.Proofs.YtpjlibbdngnnnaaDoor
set_option linter.unusedSimpArgs false
set_option linter.unusedVariables false
open Go.RowKit

/-- Is a bind none of main's with parameters? -/
def mnOk (b : TB) : Bool := decide (b.name ≠ mainN) || decide (b.params.length = 0)
def mnF : List TB → FS → FS
  | [], s => s
  | b :: l, s => mnF l (askF (mnOk b) s 11 b.name)
theorem mnF_app : ∀ (a b : List TB) (s : FS), mnF (a ++ b) s = mnF b (mnF a s)
  | [], _, _ => rfl
  | x :: l, b, s => mnF_app l b _
theorem mnF_take {bs : List TB} {j : Nat} (h : j < bs.length) (s : FS) : mnF (bs.take (j + 1)) s = askF (mnOk bs[j]) (mnF (bs.take j) s) 11 bs[j].name := by
  rw [List.take_succ_eq_append_getElem h, mnF_app]
  rfl
/-- What constructors take. -/
def cmF (l : List (List UInt8 × Nat)) : List UInt8 → Int := l.foldl (fun f d => fun y => if y = d.1 then (d.2 : Int) else f y) (fun _ => 0)
theorem cmF_snoc (l : List (List UInt8 × Nat)) (d : List UInt8 × Nat) : cmF (l ++ [d]) = fun y => if y = d.1 then (d.2 : Int) else cmF l y := by
  unfold cmF
  rw [List.foldl_append]
  rfl
/-- The first fault of a module. -/
def arF (m : TM) : FS := if (chkF m).1 = 0 then arB (cmF (fullD m)) m.binds (mnF m.binds noF) else chkF m
section
variable {cm : List UInt8 → Int} {w : World} {cb : Nat} {s : FS}
set_option maxRecDepth 100000 in
set_option maxHeartbeats 4000000 in
theorem main2_any {b : TB} {cs : List Value} {q1 : Nat} (h : KAt w cb cm s) (hq : Blk w q1 #[.pointer (some ⟨cb, 0, none⟩)] 81) (hB : BAt (fun b => b = cb) w cs b) :
    Calls Tryd.prog 73 #[.agg cs.toArray, .pointer (some ⟨q1, 0, none⟩)] w fun r w' => r = .returned (.tuple #[]) ∧ KAt w' cb cm (askF (mnOk b) s 11 b.name) ∧ Fr (fun b => b = cb) w w' := by
  obtain ⟨bn, pa, pn, pc, k', nm', fl', bi', e0, m0, d0, e1, m1, d1, e2, m2, d2, e3, m3, d3, rfl⟩ := hB.formB
  obtain ⟨hr, hE, etn⟩ := hB.parts
  obtain ⟨x, hx⟩ : ∃ x, b.name = x := ⟨_, rfl⟩
  rw [hx] at etn ⊢
  subst etn
  have hpn : b.params.length = pn := by
    obtain ⟨a9, c9, e9, _⟩ := hr
    cases e9
    rfl
  have hmo : mnOk b = (decide (x ≠ mainN) || decide (pn = 0)) := by unfold mnOk; rw [hx, hpn]
  rw [hmo]
  have t1 := hq.cell 0
  simp at t1
  have tl := hq.lt
  have H0 := Lib.hid h
  clear h hq hB hr hE hpn hmo hx
  by_cases hxm : x = mainN
  · subst hxm
    by_cases hp : pn = 0
    · subst hp
      have HA := Lib.hid (fun w' (f : Fr Nil w w') => ask_any (H0.out.fr f) true 11 mainN)
      go_enter Tryd.func73, Tryd.ntmps73
      go_wp2_with fail
      refine (HA.out _ (by (repeat (first | (with_reducible exact Fr.refl _ _) | (with_reducible assumption) | (with_reducible exact Fr.of_nil (by assumption)) | (with_reducible refine Fr.drew ?_) | (with_reducible refine Fr.drewN ?_ _) | (with_reducible refine Fr.alloc ?_ _) | (with_reducible refine Fr.set ?_ _ _ (by first | (intros; omega) | (simp; done) | (simp; omega))) | (with_reducible refine Fr.via ?_ (by assumption)) | (with_reducible refine Fr.comp ?_ (by assumption)))))).mono ?_
      rintro e w2 ⟨rfl, h2, f2⟩
      have H2 := Lib.hid (And.intro h2 (Fr.comp (S := fun b => b = cb) (Fr.of_nil (by (repeat (first | (with_reducible exact Fr.refl _ _) | (with_reducible assumption) | (with_reducible exact Fr.of_nil (by assumption)) | (with_reducible refine Fr.drew ?_) | (with_reducible refine Fr.drewN ?_ _) | (with_reducible refine Fr.alloc ?_ _) | (with_reducible refine Fr.set ?_ _ _ (by first | (intros; omega) | (simp; done) | (simp; omega))) | (with_reducible refine Fr.via ?_ (by assumption)) | (with_reducible refine Fr.comp ?_ (by assumption)))))) f2 : Fr (fun b => b = cb) w w2))
      clear h2 f2
      go_wp2
      go_end0
      exact ⟨rfl, H2.out.1, H2.out.2⟩
    · have d5 : ((pn : Int) == 0) = false := by rw [beq_eq_false_iff_ne]; omega
      have d6 : decide (pn = 0) = false := decide_eq_false hp
      have HA := Lib.hid (fun w' (f : Fr Nil w w') => ask_any (H0.out.fr f) false 11 mainN)
      rw [d6]
      clear hp d6
      go_enter Tryd.func73, Tryd.ntmps73
      go_wp2_with fail
      refine (HA.out _ (by (repeat (first | (with_reducible exact Fr.refl _ _) | (with_reducible assumption) | (with_reducible exact Fr.of_nil (by assumption)) | (with_reducible refine Fr.drew ?_) | (with_reducible refine Fr.drewN ?_ _) | (with_reducible refine Fr.alloc ?_ _) | (with_reducible refine Fr.set ?_ _ _ (by first | (intros; omega) | (simp; done) | (simp; omega))) | (with_reducible refine Fr.via ?_ (by assumption)) | (with_reducible refine Fr.comp ?_ (by assumption)))))).mono ?_
      rintro e w2 ⟨rfl, h2, f2⟩
      have H2 := Lib.hid (And.intro h2 (Fr.comp (S := fun b => b = cb) (Fr.of_nil (by (repeat (first | (with_reducible exact Fr.refl _ _) | (with_reducible assumption) | (with_reducible exact Fr.of_nil (by assumption)) | (with_reducible refine Fr.drew ?_) | (with_reducible refine Fr.drewN ?_ _) | (with_reducible refine Fr.alloc ?_ _) | (with_reducible refine Fr.set ?_ _ _ (by first | (intros; omega) | (simp; done) | (simp; omega))) | (with_reducible refine Fr.via ?_ (by assumption)) | (with_reducible refine Fr.comp ?_ (by assumption)))))) f2 : Fr (fun b => b = cb) w w2))
      clear h2 f2
      go_wp2
      go_end0
      exact ⟨rfl, H2.out.1, H2.out.2⟩
  · have d4 : (x == mainN) = false := by simpa using hxm
    have d4' : (x == [109, 97, 105, 110]) = false := d4
    have e4 : decide (x ≠ mainN) = true := decide_eq_true hxm
    have HA := Lib.hid (fun w' (f : Fr Nil w w') => ask_any (H0.out.fr f) true 11 x)
    rw [e4]
    clear hxm e4
    go_enter Tryd.func73, Tryd.ntmps73
    go_wp2_with fail
    refine (HA.out _ (by (repeat (first | (with_reducible exact Fr.refl _ _) | (with_reducible assumption) | (with_reducible exact Fr.of_nil (by assumption)) | (with_reducible refine Fr.drew ?_) | (with_reducible refine Fr.drewN ?_ _) | (with_reducible refine Fr.alloc ?_ _) | (with_reducible refine Fr.set ?_ _ _ (by first | (intros; omega) | (simp; done) | (simp; omega))) | (with_reducible refine Fr.via ?_ (by assumption)) | (with_reducible refine Fr.comp ?_ (by assumption)))))).mono ?_
    rintro e w2 ⟨rfl, h2, f2⟩
    have H2 := Lib.hid (And.intro h2 (Fr.comp (S := fun b => b = cb) (Fr.of_nil (by (repeat (first | (with_reducible exact Fr.refl _ _) | (with_reducible assumption) | (with_reducible exact Fr.of_nil (by assumption)) | (with_reducible refine Fr.drew ?_) | (with_reducible refine Fr.drewN ?_ _) | (with_reducible refine Fr.alloc ?_ _) | (with_reducible refine Fr.set ?_ _ _ (by first | (intros; omega) | (simp; done) | (simp; omega))) | (with_reducible refine Fr.via ?_ (by assumption)) | (with_reducible refine Fr.comp ?_ (by assumption)))))) f2 : Fr (fun b => b = cb) w w2))
    clear h2 f2
    go_wp2
    go_end0
    exact ⟨rfl, H2.out.1, H2.out.2⟩

set_option maxRecDepth 100000 in
set_option maxHeartbeats 4000000 in
theorem main1_any {bs : List TB} {sa : Option Addr} {n cap gf q1 q3 : Nat} {bc : Nat → List Value} {t : TypeId} (hE : Enters Tryd.prog gf) (h : KAt w cb cm s) (hq3 : Blk w q3 #[.slice sa n cap] t) (hqc : ¬ q3 = cb) (hn : bs.length = n) (hr : RowC (fun b => b = cb) w (.slice sa n cap) n 10 bc) (hb : ∀ i (h : i < bs.length), BAt (fun b => b = cb) w (bc i) bs[i])
    (hstep : ∀ i (h : i < bs.length) w' s', Fr (fun b => b = cb) w w' → KAt w' cb cm s' → Calls Tryd.prog gf #[.agg (bc i).toArray, .pointer (some ⟨q1, 0, none⟩)] w' fun r w2 => r = .returned (.tuple #[]) ∧ KAt w2 cb cm (askF (mnOk bs[i]) s' 11 bs[i].name) ∧ Fr (fun b => b = cb) w' w2) :
    Calls Tryd.prog 72 #[.func (.func gf) #[] #[.pointer (some ⟨q1, 0, none⟩)], .pointer (some ⟨q3, 0, none⟩)] w fun r w' => r = .returned (.tuple #[]) ∧ KAt w' cb cm (mnF bs s) ∧ Fr (fun b => b = cb) w w' := by
  have hE' := hE
  unfold Enters at hE'
  have hn9 := hr.lenX
  have t1 := hq3.cell 0
  simp at t1
  have tl := hq3.lt
  have H0 := Lib.hid (And.intro hstep (And.intro h (And.intro hn (And.intro hr hb))))
  clear hstep h hn hr hb hq3
  go_enter Tryd.func72, Tryd.ntmps72
  go_wp2_with fail
  go_loopg [7] n (fun g iv wr => ∃ k : Nat, g = n - k ∧ k ≤ n ∧ iv = .int .i64 (k : Int) ∧ Hid (KAt wr cb cm (mnF (bs.take k) s) ∧ Fr (fun b => b = cb) w wr))
  case atStart => exact ⟨0, rfl, by omega, rfl, Lib.hid ⟨H0.out.2.1, Fr.refl _ _⟩⟩
  case round =>
    obtain ⟨kk, rfl, hk, rfl, HS⟩ := hrel
    have j0 : (0 : Int) ≤ (kk : Int) := by omega
    by_cases hlt : kk < n
    · have hkL : kk < bs.length := by rw [H0.out.2.2.1]; exact hlt
      have wkk : IntKind.i64.wrap ((kk : Int) + 1) = (kk : Int) + 1 := by rw [IntKind.wrap_i64]; omega
      have j1 : (kk : Int) < (n : Int) := by omega
      obtain ⟨b, off, rfl, hbx, hc⟩ := (H0.out.2.2.2.1.fr HS.out.2 (fun _ q => q)).at hlt
      obtain ⟨bn, pa, pn, pc, k', nm', fl', bi', e0, m0, d0, e1, m1, d1, e2, m2, d2, e3, m3, d3, ec⟩ := (H0.out.2.2.2.2 kk hkL).formB
      have HST := H0.out.1 kk hkL
      rw [ec] at hc HST
      have HST := Lib.hid HST
      have HT := Lib.hid (mnF_take hkL s)
      have p0 := hc 0 _ rfl
      have p1 := hc 1 _ rfl
      have p2 := hc 2 _ rfl
      have p3 := hc 3 _ rfl
      have p4 := hc 4 _ rfl
      have p5 := hc 5 _ rfl
      have p6 := hc 6 _ rfl
      have p7 := hc 7 _ rfl
      have p8 := hc 8 _ rfl
      have p9 := hc 9 _ rfl
      simp only [Nat.add_zero] at p0
      have hcl := HS.out.1.lt
      have hbl : b < wr.heap.size := World.block_lt_of_cell? _ _ p0
      clear hc ec t1 tl
      go_wp2_with fail
      go_at_fn gf
      refine (HST.out _ _ (HS.out.2.comp (by (repeat (first | (with_reducible exact Fr.refl _ _) | (with_reducible assumption) | (with_reducible exact Fr.of_nil (by assumption)) | (with_reducible refine Fr.drew ?_) | (with_reducible refine Fr.drewN ?_ _) | (with_reducible refine Fr.alloc ?_ _) | (with_reducible refine Fr.set ?_ _ _ (by first | (intro _; exact rfl) | (intro _; exact .inl rfl) | (intro _; exact .inr rfl) | (intro q; exact absurd q (Nat.lt_irrefl _)) | (intro q; simp at q; omega))) | (with_reducible refine Fr.via ?_ (by assumption)) | (with_reducible refine Fr.comp ?_ (by assumption)))))) (HS.out.1.fr (by (repeat (first | (with_reducible exact Fr.refl _ _) | (with_reducible assumption) | (with_reducible exact Fr.of_nil (by assumption)) | (with_reducible refine Fr.drew ?_) | (with_reducible refine Fr.drewN ?_ _) | (with_reducible refine Fr.alloc ?_ _) | (with_reducible refine Fr.set ?_ _ _ (by first | (intros; omega) | (simp; done) | (simp; omega))) | (with_reducible refine Fr.via ?_ (by assumption)) | (with_reducible refine Fr.comp ?_ (by assumption))))))).mono ?_
      rintro e w6 ⟨rfl, h6, f6⟩
      have g6 : Fr (fun b => b = cb) wr w6 := Fr.comp (S := fun b => b = cb) (Fr.of_nil (by (repeat (first | (with_reducible exact Fr.refl _ _) | (with_reducible assumption) | (with_reducible exact Fr.of_nil (by assumption)) | (with_reducible refine Fr.drew ?_) | (with_reducible refine Fr.drewN ?_ _) | (with_reducible refine Fr.alloc ?_ _) | (with_reducible refine Fr.set ?_ _ _ (by first | (intros; omega) | (simp; done) | (simp; omega))) | (with_reducible refine Fr.via ?_ (by assumption)) | (with_reducible refine Fr.comp ?_ (by assumption)))))) f6
      have H6 := Lib.hid (And.intro h6 g6)
      clear h6 f6 g6
      go_wp2
      go_roundg (n - (kk + 1))
      case rel => exact ⟨kk + 1, rfl, by omega, by simp, Lib.hid ⟨by rw [HT.out]; exact H6.out.1, HS.out.2.comp H6.out.2⟩⟩
      case measure => omega
    · have j1 : ¬ (kk : Int) < (n : Int) := by omega
      obtain rfl : n = kk := by omega
      have HS1 : Hid (KAt wr cb cm (mnF bs s)) := Lib.hid (by
        have h := HS.out.1
        rw [List.take_of_length_le (by rw [H0.out.2.2.1]; exact Nat.le_refl _)] at h
        exact h)
      go_wp2
      go_end0
      exact ⟨rfl, HS1.out, HS.out.2⟩

set_option maxRecDepth 100000 in
set_option maxHeartbeats 4000000 in
theorem armain_any {bs : List TB} {sa : Option Addr} {n cap : Nat} {bc : Nat → List Value} (h : KAt w cb cm s) (hn : bs.length = n) (hr : RowC (fun b => b = cb) w (.slice sa n cap) n 10 bc) (hb : ∀ i (h : i < bs.length), BAt (fun b => b = cb) w (bc i) bs[i]) :
    Calls Tryd.prog 36 #[.pointer (some ⟨cb, 0, none⟩), .slice sa n cap] w fun r w' => r = .returned (.tuple #[]) ∧ KAt w' cb cm (mnF bs s) ∧ Fr (fun b => b = cb) w w' := by
  have H0 := Lib.hid (And.intro h (And.intro hn (And.intro hr hb)))
  have hcl := h.lt
  clear h hn hr hb
  have hE1 : Enters Tryd.prog 72 := enters_of Tryd.func72 (by kernel_rfl) rfl
  have hE' := hE1
  unfold Enters at hE'
  go_enter Tryd.func36, Tryd.ntmps36
  go_wp2_with fail
  obtain ⟨W1, hW1⟩ : ∃ W1, (w.alloc (.cells #[.pointer (some ⟨cb, 0, none⟩)] 81)).alloc (.cells #[.slice sa n cap] 24) = W1 := ⟨_, rfl⟩
  rw [hW1]
  have f1 : Fr Nil w W1 := by rw [← hW1]; (repeat (first | (with_reducible exact Fr.refl _ _) | (with_reducible assumption) | (with_reducible exact Fr.of_nil (by assumption)) | (with_reducible refine Fr.drew ?_) | (with_reducible refine Fr.drewN ?_ _) | (with_reducible refine Fr.alloc ?_ _) | (with_reducible refine Fr.set ?_ _ _ (by first | (intros; omega) | (simp; done) | (simp; omega))) | (with_reducible refine Fr.via ?_ (by assumption)) | (with_reducible refine Fr.comp ?_ (by assumption))))
  have b0 : Blk W1 w.heap.size #[.pointer (some ⟨cb, 0, none⟩)] 81 := by rw [← hW1]; (unfold Blk; simp (disch := first | omega | (simp; done) | (simp; omega)) only [hp_drew, hp_drewN, hp_alloc, hp_other, hp_same, hp_new, upd_cells, Option.map_some])
  have b1 : Blk W1 (w.heap.size + 1) #[.slice sa n cap] 24 := by rw [← hW1]; (unfold Blk; simp (disch := first | omega | (simp; done) | (simp; omega)) only [hp_drew, hp_drewN, hp_alloc, hp_other, hp_same, hp_new, upd_cells, Option.map_some])
  have HA := Lib.hid (main1_any (enters_of Tryd.func73 (by kernel_rfl) rfl) (q1 := w.heap.size) (H0.out.1.fr f1) b1 (by omega) H0.out.2.1 (H0.out.2.2.1.fr f1 (fun _ q => q.elim)) (fun i hi => lawB.fr (H0.out.2.2.2 i hi) f1 (fun _ q => q.elim)) (fun i hi w' s' g hk => main2_any hk (g.blk b0 (fun q => by have q' : w.heap.size = cb := q; omega)) (lawB.fr (lawB.fr (H0.out.2.2.2 i hi) f1 (fun _ q => q.elim)) g (fun _ q => q))))
  have HF := Lib.hid f1
  clear hW1 f1 b0 b1
  first
    | (go_at_fn 72; refine HA.out.mono ?_)
    | (refine HA.out.mono ?_)
  rintro e w2 ⟨rfl, h2, f2⟩
  have H2 := Lib.hid (And.intro h2 ((Fr.of_nil HF.out).comp f2))
  clear h2 f2
  go_wp2
  go_end0
  exact ⟨rfl, H2.out.1, H2.out.2⟩
end

end Go.Proofs.YtpjlibbdngnnnaaDoor
