/-
  Arity (layer 11): main without parameters; a module's first fault. Conditions: the listed variable errors.errorType; a module as a source tells it.
  Arity (layer 11): a module's first fault. Conditions: the listed variable errors.errorType; a module as a source tells it.
-/
import Derived.Test.YtpjlibbdngnnnaaDoorArA
import Derived.Test.YtpjlibbdngnnnaaDoorL10
namespace Go.Proofs.YtpjlibbdngnnnaaDoor
set_option linter.unusedSimpArgs false
set_option linter.unusedVariables false
open Go.RowKit

/-- Is a bind none of main's with parameters? -/
def mnOk (b : TB) : Bool := decide (b.name ≠ mainN) || decide (b.params.length = 0)
def mnF : List TB → FS → FS
  | [], s => s
  | b :: l, s => mnF l (askF (mnOk b) s 11 b.name)
theorem mnF_app : ∀ (a b : List TB) (s : FS), mnF (a ++ b) s = mnF b (mnF a s)
  | [], _, _ => rfl
  | x :: l, b, s => mnF_app l b _
theorem mnF_take {bs : List TB} {j : Nat} (h : j < bs.length) (s : FS) : mnF (bs.take (j + 1)) s = askF (mnOk bs[j]) (mnF (bs.take j) s) 11 bs[j].name := by
  rw [List.take_succ_eq_append_getElem h, mnF_app]
  rfl
/-- What constructors take. -/
def cmF (l : List (List UInt8 × Nat)) : List UInt8 → Int := l.foldl (fun f d => fun y => if y = d.1 then (d.2 : Int) else f y) (fun _ => 0)
theorem cmF_snoc (l : List (List UInt8 × Nat)) (d : List UInt8 × Nat) : cmF (l ++ [d]) = fun y => if y = d.1 then (d.2 : Int) else cmF l y := by
  unfold cmF
  rw [List.foldl_append]
  rfl
/-- The first fault of a module. -/
def arF (m : TM) : FS := if (chkF m).1 = 0 then arB (cmF (fullD m)) m.binds (mnF m.binds noF) else chkF m
section
variable {cm : List UInt8 → Int} {w : World} {cb : Nat} {s : FS}
set_option maxRecDepth 100000 in
set_option maxHeartbeats 4000000 in
theorem main2_any {b : TB} {cs : List Value} {q1 : Nat} (h : KAt w cb cm s) (hq : Blk w q1 #[.pointer (some ⟨cb, 0, none⟩)] 81) (hB : BAt (fun b => b = cb) w cs b) :
    Calls Tryd.prog 73 #[.agg cs.toArray, .pointer (some ⟨q1, 0, none⟩)] w fun r w' => r = .returned (.tuple #[]) ∧ KAt w' cb cm (askF (mnOk b) s 11 b.name) ∧ Fr (fun b => b = cb) w w' := by
  obtain ⟨bn, pa, pn, pc, k', nm', fl', bi', e0, m0, d0, e1, m1, d1, e2, m2, d2, e3, m3, d3, rfl⟩ := hB.formB
  obtain ⟨hr, hE, etn⟩ := hB.parts
  obtain ⟨x, hx⟩ : ∃ x, b.name = x := ⟨_, rfl⟩
  rw [hx] at etn ⊢
  subst etn
  have hpn : b.params.length = pn := by
    obtain ⟨a9, c9, e9, _⟩ := hr
    cases e9
    rfl
  have hmo : mnOk b = (decide (x ≠ mainN) || decide (pn = 0)) := by unfold mnOk; rw [hx, hpn]
  rw [hmo]
  have t1 := hq.cell 0
  simp at t1
  have tl := hq.lt
  have H0 := Lib.hid h
  clear h hq hB hr hE hpn hmo hx
  by_cases hxm : x = mainN
  · subst hxm
    by_cases hp : pn = 0
    · subst hp
      have HA := Lib.hid (fun w' (f : Fr Nil w w') => ask_any (H0.out.fr f) true 11 mainN)
      go_enter Tryd.func73, Tryd.ntmps73
      go_wp2_with fail
      refine (HA.out _ (by (repeat (first | (with_reducible exact Fr.refl _ _) | (with_reducible assumption) | (with_reducible exact Fr.of_nil (by assumption)) | (with_reducible refine Fr.drew ?_) | (with_reducible refine Fr.drewN ?_ _) | (with_reducible refine Fr.alloc ?_ _) | (with_reducible refine Fr.set ?_ _ _ (by first | (intros; omega) | (simp; done) | (simp; omega))) | (with_reducible refine Fr.via ?_ (by assumption)) | (with_reducible refine Fr.comp ?_ (by assumption)))))).mono ?_
      rintro e w2 ⟨rfl, h2, f2⟩
      have H2 := Lib.hid (And.intro h2 (Fr.comp (S := fun b => b = cb) (Fr.of_nil (by (repeat (first | (with_reducible exact Fr.refl _ _) | (with_reducible assumption) | (with_reducible exact Fr.of_nil (by assumption)) | (with_reducible refine Fr.drew ?_) | (with_reducible refine Fr.drewN ?_ _) | (with_reducible refine Fr.alloc ?_ _) | (with_reducible refine Fr.set ?_ _ _ (by first | (intros; omega) | (simp; done) | (simp; omega))) | (with_reducible refine Fr.via ?_ (by assumption)) | (with_reducible refine Fr.comp ?_ (by assumption)))))) f2 : Fr (fun b => b = cb) w w2))
      clear h2 f2
      go_wp2
      go_end0
      exact ⟨rfl, H2.out.1, H2.out.2⟩
    · have d5 : ((pn : Int) == 0) = false := by rw [beq_eq_false_iff_ne]; omega
      have d6 : decide (pn = 0) = false := decide_eq_false hp
      have HA := Lib.hid (fun w' (f : Fr Nil w w') => ask_any (H0.out.fr f) false 11 mainN)
      rw [d6]
      clear hp d6
      go_enter Tryd.func73, Tryd.ntmps73
      go_wp2_with fail
      refine (HA.out _ (by (repeat (first | (with_reducible exact Fr.refl _ _) | (with_reducible assumption) | (with_reducible exact Fr.of_nil (by assumption)) | (with_reducible refine Fr.drew ?_) | (with_reducible refine Fr.drewN ?_ _) | (with_reducible refine Fr.alloc ?_ _) | (with_reducible refine Fr.set ?_ _ _ (by first | (intros; omega) | (simp; done) | (simp; omega))) | (with_reducible refine Fr.via ?_ (by assumption)) | (with_reducible refine Fr.comp ?_ (by assumption)))))).mono ?_
      rintro e w2 ⟨rfl, h2, f2⟩
      have H2 := Lib.hid (And.intro h2 (Fr.comp (S := fun b => b = cb) (Fr.of_nil (by (repeat (first | (with_reducible exact Fr.refl _ _) | (with_reducible assumption) | (with_reducible exact Fr.of_nil (by assumption)) | (with_reducible refine Fr.drew ?_) | (with_reducible refine Fr.drewN ?_ _) | (with_reducible refine Fr.alloc ?_ _) | (with_reducible refine Fr.set ?_ _ _ (by first | (intros; omega) | (simp; done) | (simp; omega))) | (with_reducible refine Fr.via ?_ (by assumption)) | (with_reducible refine Fr.comp ?_ (by assumption)))))) f2 : Fr (fun b => b = cb) w w2))
      clear h2 f2
      go_wp2
      go_end0
      exact ⟨rfl, H2.out.1, H2.out.2⟩
  · have d4 : (x == mainN) = false := by simpa using hxm
    have d4' : (x == [109, 97, 105, 110]) = false := d4
    have e4 : decide (x ≠ mainN) = true := decide_eq_true hxm
    have HA := Lib.hid (fun w' (f : Fr Nil w w') => ask_any (H0.out.fr f) true 11 x)
    rw [e4]
    clear hxm e4
    go_enter Tryd.func73, Tryd.ntmps73
    go_wp2_with fail
    refine (HA.out _ (by (repeat (first | (with_reducible exact Fr.refl _ _) | (with_reducible assumption) | (with_reducible exact Fr.of_nil (by assumption)) | (with_reducible refine Fr.drew ?_) | (with_reducible refine Fr.drewN ?_ _) | (with_reducible refine Fr.alloc ?_ _) | (with_reducible refine Fr.set ?_ _ _ (by first | (intros; omega) | (simp; done) | (simp; omega))) | (with_reducible refine Fr.via ?_ (by assumption)) | (with_reducible refine Fr.comp ?_ (by assumption)))))).mono ?_
    rintro e w2 ⟨rfl, h2, f2⟩
    have H2 := Lib.hid (And.intro h2 (Fr.comp (S := fun b => b = cb) (Fr.of_nil (by (repeat (first | (with_reducible exact Fr.refl _ _) | (with_reducible assumption) | (with_reducible exact Fr.of_nil (by assumption)) | (with_reducible refine Fr.drew ?_) | (with_reducible refine Fr.drewN ?_ _) | (with_reducible refine Fr.alloc ?_ _) | (with_reducible refine Fr.set ?_ _ _ (by first | (intros; omega) | (simp; done) | (simp; omega))) | (with_reducible refine Fr.via ?_ (by assumption)) | (with_reducible refine Fr.comp ?_ (by assumption)))))) f2 : Fr (fun b => b = cb) w w2))
    clear h2 f2
    go_wp2
    go_end0
    exact ⟨rfl, H2.out.1, H2.out.2⟩

set_option maxRecDepth 100000 in
set_option maxHeartbeats 4000000 in
theorem main1_any {bs : List TB} {sa : Option Addr} {n cap gf q1 q3 : Nat} {bc : Nat → List Value} {t : TypeId} (hE : Enters Tryd.prog gf) (h : KAt w cb cm s) (hq3 : Blk w q3 #[.slice sa n cap] t) (hqc : ¬ q3 = cb) (hn : bs.length = n) (hr : RowC (fun b => b = cb) w (.slice sa n cap) n 10 bc) (hb : ∀ i (h : i < bs.length), BAt (fun b => b = cb) w (bc i) bs[i])
    (hstep : ∀ i (h : i < bs.length) w' s', Fr (fun b => b = cb) w w' → KAt w' cb cm s' → Calls Tryd.prog gf #[.agg (bc i).toArray, .pointer (some ⟨q1, 0, none⟩)] w' fun r w2 => r = .returned (.tuple #[]) ∧ KAt w2 cb cm (askF (mnOk bs[i]) s' 11 bs[i].name) ∧ Fr (fun b => b = cb) w' w2) :
    Calls Tryd.prog 72 #[.func (.func gf) #[] #[.pointer (some ⟨q1, 0, none⟩)], .pointer (some ⟨q3, 0, none⟩)] w fun r w' => r = .returned (.tuple #[]) ∧ KAt w' cb cm (mnF bs s) ∧ Fr (fun b => b = cb) w w' := by
  have hE' := hE
  unfold Enters at hE'
  have hn9 := hr.lenX
  have t1 := hq3.cell 0
  simp at t1
  have tl := hq3.lt
  have H0 := Lib.hid (And.intro hstep (And.intro h (And.intro hn (And.intro hr hb))))
  clear hstep h hn hr hb hq3
  go_enter Tryd.func72, Tryd.ntmps72
  go_wp2_with fail
  go_loopg [7] n (fun g iv wr => ∃ k : Nat, g = n - k ∧ k ≤ n ∧ iv = .int .i64 (k : Int) ∧ Hid (KAt wr cb cm (mnF (bs.take k) s) ∧ Fr (fun b => b = cb) w wr))
  case atStart => exact ⟨0, rfl, by omega, rfl, Lib.hid ⟨H0.out.2.1, Fr.refl _ _⟩⟩
  case round =>
    obtain ⟨kk, rfl, hk, rfl, HS⟩ := hrel
    have j0 : (0 : Int) ≤ (kk : Int) := by omega
    by_cases hlt : kk < n
    · have hkL : kk < bs.length := by rw [H0.out.2.2.1]; exact hlt
      have wkk : IntKind.i64.wrap ((kk : Int) + 1) = (kk : Int) + 1 := by rw [IntKind.wrap_i64]; omega
      have j1 : (kk : Int) < (n : Int) := by omega
      obtain ⟨b, off, rfl, hbx, hc⟩ := (H0.out.2.2.2.1.fr HS.out.2 (fun _ q => q)).at hlt
      obtain ⟨bn, pa, pn, pc, k', nm', fl', bi', e0, m0, d0, e1, m1, d1, e2, m2, d2, e3, m3, d3, ec⟩ := (H0.out.2.2.2.2 kk hkL).formB
      have HST := H0.out.1 kk hkL
      rw [ec] at hc HST
      have HST := Lib.hid HST
      have HT := Lib.hid (mnF_take hkL s)
      have p0 := hc 0 _ rfl
      have p1 := hc 1 _ rfl
      have p2 := hc 2 _ rfl
      have p3 := hc 3 _ rfl
      have p4 := hc 4 _ rfl
      have p5 := hc 5 _ rfl
      have p6 := hc 6 _ rfl
      have p7 := hc 7 _ rfl
      have p8 := hc 8 _ rfl
      have p9 := hc 9 _ rfl
      simp only [Nat.add_zero] at p0
      have hcl := HS.out.1.lt
      have hbl : b < wr.heap.size := World.block_lt_of_cell? _ _ p0
      clear hc ec t1 tl
      go_wp2_with fail
      go_at_fn gf
      refine (HST.out _ _ (HS.out.2.comp (by (repeat (first | (with_reducible exact Fr.refl _ _) | (with_reducible assumption) | (with_reducible exact Fr.of_nil (by assumption)) | (with_reducible refine Fr.drew ?_) | (with_reducible refine Fr.drewN ?_ _) | (with_reducible refine Fr.alloc ?_ _) | (with_reducible refine Fr.set ?_ _ _ (by first | (intro _; exact rfl) | (intro _; exact .inl rfl) | (intro _; exact .inr rfl) | (intro q; exact absurd q (Nat.lt_irrefl _)) | (intro q; simp at q; omega))) | (with_reducible refine Fr.via ?_ (by assumption)) | (with_reducible refine Fr.comp ?_ (by assumption)))))) (HS.out.1.fr (by (repeat (first | (with_reducible exact Fr.refl _ _) | (with_reducible assumption) | (with_reducible exact Fr.of_nil (by assumption)) | (with_reducible refine Fr.drew ?_) | (with_reducible refine Fr.drewN ?_ _) | (with_reducible refine Fr.alloc ?_ _) | (with_reducible refine Fr.set ?_ _ _ (by first | (intros; omega) | (simp; done) | (simp; omega))) | (with_reducible refine Fr.via ?_ (by assumption)) | (with_reducible refine Fr.comp ?_ (by assumption))))))).mono ?_
      rintro e w6 ⟨rfl, h6, f6⟩
      have g6 : Fr (fun b => b = cb) wr w6 := Fr.comp (S := fun b => b = cb) (Fr.of_nil (by (repeat (first | (with_reducible exact Fr.refl _ _) | (with_reducible assumption) | (with_reducible exact Fr.of_nil (by assumption)) | (with_reducible refine Fr.drew ?_) | (with_reducible refine Fr.drewN ?_ _) | (with_reducible refine Fr.alloc ?_ _) | (with_reducible refine Fr.set ?_ _ _ (by first | (intros; omega) | (simp; done) | (simp; omega))) | (with_reducible refine Fr.via ?_ (by assumption)) | (with_reducible refine Fr.comp ?_ (by assumption)))))) f6
      have H6 := Lib.hid (And.intro h6 g6)
      clear h6 f6 g6
      go_wp2
      go_roundg (n - (kk + 1))
      case rel => exact ⟨kk + 1, rfl, by omega, by simp, Lib.hid ⟨by rw [HT.out]; exact H6.out.1, HS.out.2.comp H6.out.2⟩⟩
      case measure => omega
    · have j1 : ¬ (kk : Int) < (n : Int) := by omega
      obtain rfl : n = kk := by omega
      have HS1 : Hid (KAt wr cb cm (mnF bs s)) := Lib.hid (by
        have h := HS.out.1
        rw [List.take_of_length_le (by rw [H0.out.2.2.1]; exact Nat.le_refl _)] at h
        exact h)
      go_wp2
      go_end0
      exact ⟨rfl, HS1.out, HS.out.2⟩

set_option maxRecDepth 100000 in
set_option maxHeartbeats 4000000 in
theorem armain_any {bs : List TB} {sa : Option Addr} {n cap : Nat} {bc : Nat → List Value} (h : KAt w cb cm s) (hn : bs.length = n) (hr : RowC (fun b => b = cb) w (.slice sa n cap) n 10 bc) (hb : ∀ i (h : i < bs.length), BAt (fun b => b = cb) w (bc i) bs[i]) :
    Calls Tryd.prog 36 #[.pointer (some ⟨cb, 0, none⟩), .slice sa n cap] w fun r w' => r = .returned (.tuple #[]) ∧ KAt w' cb cm (mnF bs s) ∧ Fr (fun b => b = cb) w w' := by
  have H0 := Lib.hid (And.intro h (And.intro hn (And.intro hr hb)))
  have hcl := h.lt
  clear h hn hr hb
  have hE1 : Enters Tryd.prog 72 := enters_of Tryd.func72 (by kernel_rfl) rfl
  have hE' := hE1
  unfold Enters at hE'
  go_enter Tryd.func36, Tryd.ntmps36
  go_wp2_with fail
  obtain ⟨W1, hW1⟩ : ∃ W1, (w.alloc (.cells #[.pointer (some ⟨cb, 0, none⟩)] 81)).alloc (.cells #[.slice sa n cap] 24) = W1 := ⟨_, rfl⟩
  rw [hW1]
  have f1 : Fr Nil w W1 := by rw [← hW1]; (repeat (first | (with_reducible exact Fr.refl _ _) | (with_reducible assumption) | (with_reducible exact Fr.of_nil (by assumption)) | (with_reducible refine Fr.drew ?_) | (with_reducible refine Fr.drewN ?_ _) | (with_reducible refine Fr.alloc ?_ _) | (with_reducible refine Fr.set ?_ _ _ (by first | (intros; omega) | (simp; done) | (simp; omega))) | (with_reducible refine Fr.via ?_ (by assumption)) | (with_reducible refine Fr.comp ?_ (by assumption))))
  have b0 : Blk W1 w.heap.size #[.pointer (some ⟨cb, 0, none⟩)] 81 := by rw [← hW1]; (unfold Blk; simp (disch := first | omega | (simp; done) | (simp; omega)) only [hp_drew, hp_drewN, hp_alloc, hp_other, hp_same, hp_new, upd_cells, Option.map_some])
  have b1 : Blk W1 (w.heap.size + 1) #[.slice sa n cap] 24 := by rw [← hW1]; (unfold Blk; simp (disch := first | omega | (simp; done) | (simp; omega)) only [hp_drew, hp_drewN, hp_alloc, hp_other, hp_same, hp_new, upd_cells, Option.map_some])
  have HA := Lib.hid (main1_any (enters_of Tryd.func73 (by kernel_rfl) rfl) (q1 := w.heap.size) (H0.out.1.fr f1) b1 (by omega) H0.out.2.1 (H0.out.2.2.1.fr f1 (fun _ q => q.elim)) (fun i hi => lawB.fr (H0.out.2.2.2 i hi) f1 (fun _ q => q.elim)) (fun i hi w' s' g hk => main2_any hk (g.blk b0 (fun q => by have q' : w.heap.size = cb := q; omega)) (lawB.fr (lawB.fr (H0.out.2.2.2 i hi) f1 (fun _ q => q.elim)) g (fun _ q => q))))
  have HF := Lib.hid f1
  clear hW1 f1 b0 b1
  first
    | (go_at_fn 72; refine HA.out.mono ?_)
    | (refine HA.out.mono ?_)
  rintro e w2 ⟨rfl, h2, f2⟩
  have H2 := Lib.hid (And.intro h2 ((Fr.of_nil HF.out).comp f2))
  clear h2 f2
  go_wp2
  go_end0
  exact ⟨rfl, H2.out.1, H2.out.2⟩
end

end Go.Proofs.YtpjlibbdngnnnaaDoor

namespace Go.Proofs.YtpjlibbdngnnnaaDoor
set_option linter.unusedSimpArgs false
set_option linter.unusedVariables false
open Go.RowKit

section
variable {w : World} {m : TM} {c1 : Option Addr} {c2 : Nat}
set_option maxRecDepth 100000 in
set_option maxHeartbeats 8000000 in
theorem acheck_any {b1 : Option Addr} {nb b2 nc : Nat} (hm : ModV (fun _ => False) w c1 nc c2 b1 nb b2 m) (hcn : ∀ d ∈ m.cons, d.1.length ≤ maxLen) (har : ∀ d ∈ m.cons, d.2 ≤ 1000000) (hok : okB m.binds) (hws : wsB m.binds) (hl9 : m.cons.length ≤ 100000) (hl8 : m.binds.length + wnB m.binds ≤ 700000) (hT : ErrT w) :
    Calls Tryd.prog 14 #[.agg #[.slice c1 nc c2, .slice b1 nb b2]] w fun r w' => r = .returned (.tuple #[.int .i64 ((arF m).1 : Int), .string ⟨(arF m).2.toArray⟩]) ∧ Fr Nil w w' := by
  obtain ⟨⟨RE, RN⟩, hR⟩ : ∃ R, chkF m = R := ⟨_, rfl⟩
  obtain ⟨⟨SE, SN⟩, hS⟩ : ∃ R, arF m = R := ⟨_, rfl⟩
  rw [hS]
  have HM := Lib.hid (And.intro hm (And.intro hcn (And.intro har (And.intro hok (And.intro hws (And.intro hl9 (And.intro hl8 (And.intro hT (And.intro hR hS)))))))))
  clear hm hcn har hok hws hl9 hl8 hT hR hS
  obtain ⟨T, hTs⟩ : ∃ T, w.heap.size = T := ⟨_, rfl⟩
  have hmm := @run_makeMap Tryd.prog
  go_enter Tryd.func14, Tryd.ntmps14
  go_wp2_with fail
  obtain ⟨W1, hW1⟩ : ∃ W1, w.alloc (.cells #[.slice c1 nc c2, .slice b1 nb b2] 26) = W1 := ⟨_, rfl⟩
  try rw [hTs]
  rw [hW1]
  have f1 : Fr Nil w W1 := by rw [← hW1]; (repeat (first | (with_reducible exact Fr.refl _ _) | (with_reducible assumption) | (with_reducible exact Fr.of_nil (by assumption)) | (with_reducible refine Fr.drew ?_) | (with_reducible refine Fr.drewN ?_ _) | (with_reducible refine Fr.alloc ?_ _) | (with_reducible refine Fr.set ?_ _ _ (by first | (intros; omega) | (simp; done) | (simp; omega))) | (with_reducible refine Fr.via ?_ (by assumption)) | (with_reducible refine Fr.comp ?_ (by assumption))))
  have bT : Blk W1 T #[.slice c1 nc c2, .slice b1 nb b2] 26 := by rw [← hW1, ← hTs]; exact Blk.new _ _ _
  have hck := scheck_any (HM.out.1.fr f1 (fun _ q => q.elim)) HM.out.2.1 HM.out.2.2.2.1 HM.out.2.2.2.2.1 HM.out.2.2.2.2.2.1 HM.out.2.2.2.2.2.2.1 (HM.out.2.2.2.2.2.2.2.1.fr f1)
  rw [HM.out.2.2.2.2.2.2.2.2.1] at hck
  have HK := Lib.hid hck
  have H1 := Lib.hid (And.intro f1 (And.intro bT hTs))
  clear hW1 f1 bT hck hTs
  refine HK.out.mono ?_
  rintro e w2 ⟨rfl, f2⟩
  have bT2 := f2.blk H1.out.2.1 (fun q => q)
  have t0 := bT2.cell 0
  have t1 := bT2.cell 1
  simp at t0 t1
  have tl := bT2.lt
  have H2 := Lib.hid (And.intro (H1.out.1.comp f2) bT2)
  clear f2 bT2 HK
  by_cases hr : RE = 0
  · subst hr
    have hv : arB (cmF (fullD m)) m.binds (mnF m.binds noF) = (SE, SN) := by
      rw [← HM.out.2.2.2.2.2.2.2.2.2]
      unfold arF
      rw [if_pos (by rw [HM.out.2.2.2.2.2.2.2.2.1])]
    have HV := Lib.hid hv
    clear hv
    obtain ⟨M1, hM1⟩ : ∃ M1, w2.heap.size = M1 := ⟨_, rfl⟩
    go_upto_region 5 with fail
    try rw [hM1]
    obtain ⟨W3, hW3⟩ : ∃ W3, (w2.alloc (.map #[] 0)).alloc (.cells #[.map (some M1), .int .i64 0, .string ⟨#[]⟩] 83) = W3 := ⟨_, rfl⟩
    rw [hW3]
    have f3 : Fr Nil w2 W3 := by rw [← hW3]; (repeat (first | (with_reducible exact Fr.refl _ _) | (with_reducible assumption) | (with_reducible exact Fr.of_nil (by assumption)) | (with_reducible refine Fr.drew ?_) | (with_reducible refine Fr.drewN ?_ _) | (with_reducible refine Fr.alloc ?_ _) | (with_reducible refine Fr.set ?_ _ _ (by first | (intros; omega) | (simp; done) | (simp; omega))) | (with_reducible refine Fr.via ?_ (by assumption)) | (with_reducible refine Fr.comp ?_ (by assumption))))
    have bc3 : Blk W3 (M1 + 1) #[.map (some M1), .int .i64 0, .string ⟨#[]⟩] 83 := by rw [← hW3, ← hM1]; (unfold Blk; simp (disch := first | omega | (simp; done) | (simp; omega)) only [hp_drew, hp_drewN, hp_alloc, hp_other, hp_same, hp_new, upd_cells, Option.map_some])
    have hm3 : SMap W3 M1 0 (cmF []) := by
      have h := SMap.made w2
      rw [hM1] at h
      rw [← hW3]
      exact h.frN (by (repeat (first | (with_reducible exact Fr.refl _ _) | (with_reducible assumption) | (with_reducible exact Fr.of_nil (by assumption)) | (with_reducible refine Fr.drew ?_) | (with_reducible refine Fr.drewN ?_ _) | (with_reducible refine Fr.alloc ?_ _) | (with_reducible refine Fr.set ?_ _ _ (by first | (intros; omega) | (simp; done) | (simp; omega))) | (with_reducible refine Fr.via ?_ (by assumption)) | (with_reducible refine Fr.comp ?_ (by assumption)))))
    have z3 : W3.heap.size = M1 + 2 := by rw [← hW3, ← hM1]; simp
    have bT3 := f3.blk H2.out.2 (fun q => q)
    have hTM : T < M1 := by omega
    have hc1 := scons_any (m := m) (b1 := b1) (nb := nb) (b2 := b2) (RowC.frN HM.out.1.1 (H2.out.1.comp f3)) HM.out.1.2.1 HM.out.2.2.2.2.2.1
    clear t0 t1 tl
    have t0 := bT3.cell 0
    have t1 := bT3.cell 1
    simp at t0 t1
    have tl := bT3.lt
    have hwM : w.heap.size ≤ M1 := by have := H2.out.1.size; omega
    have H3 := Lib.hid (And.intro (H2.out.1.comp f3) (And.intro bc3 (And.intro hm3 (And.intro z3 (And.intro bT3 hwM)))))
    have HC := Lib.hid hc1
    clear hW3 f3 bc3 hm3 z3 bT3 hc1 hM1 hmm hwM
    go_wp2_with fail
    refine HC.out.mono ?_
    rintro e W4 ⟨v0, rfl, own0, f4⟩
    obtain ⟨n4, hn4⟩ : ∃ n4, (fullD m).length = n4 := ⟨_, rfl⟩
    have hn49 : n4 ≤ 100004 := by
      have : (fullD m).length = 4 + m.cons.length := by simp [fullD]; omega
      have := HM.out.2.2.2.2.2.1
      omega
    rw [H3.out.2.2.2.1] at own0
    have hdA : DeclsAt (fun b => b < M1 + 2) W4 v0 (fullD m) := DeclsAt.of_own own0 (fun b q => q)
    obtain ⟨va, vc, rfl⟩ := owns_shape own0
    rw [hn4] at hdA ⊢
    have hd1 : ∀ d ∈ fullD m, d.1.length ≤ maxLen ∧ d.2 ≤ 1000000 := fun d hd => by
      unfold fullD at hd
      rcases List.mem_append.1 hd with q | q
      · simp at q
        rcases q with rfl | rfl | rfl | rfl <;> decide
      · exact ⟨HM.out.2.1 d q, HM.out.2.2.1 d q⟩
    have H4 := Lib.hid (And.intro hdA (And.intro f4 (And.intro hn4 (And.intro (f4.blk H3.out.2.1 (fun q => q)) (And.intro (f4.blk H3.out.2.2.2.2.1 (fun q => q)) (And.intro hd1 (H3.out.2.2.1.frN f4)))))))
    have hs4 : M1 + 2 ≤ W4.heap.size := by have := f4.size; have := H3.out.2.2.2.1; omega
    clear own0 hdA f4 hn4 hd1 HC t0 t1 tl
    go_wp2_with fail
    go_loopg [24] n4 (fun g iv wr => ∃ k : Nat, g = n4 - k ∧ k ≤ n4 ∧ iv = .int .i64 (k : Int) ∧ Hid (SMap wr M1 k (cmF ((fullD m).take k)) ∧ Fr (fun b => b = M1) W4 wr))
    case atStart => exact ⟨0, rfl, by omega, rfl, Lib.hid ⟨by rw [List.take_zero]; exact H4.out.2.2.2.2.2.2, Fr.refl _ _⟩⟩
    case round =>
      obtain ⟨kk, rfl, hk, rfl, HS⟩ := hrel
      have j0 : (0 : Int) ≤ (kk : Int) := by omega
      by_cases hlt : kk < n4
      · have hkD : kk < (fullD m).length := by rw [H4.out.2.2.1]; exact hlt
        have wkk : IntKind.i64.wrap ((kk : Int) + 1) = (kk : Int) + 1 := by rw [IntKind.wrap_i64]; omega
        have j1 : (kk : Int) < (n4 : Int) := by omega
        obtain ⟨db, doff, e, hdb, p0, p1⟩ := DeclsAt.cell (RowC.fr H4.out.1 HS.out.2 (fun b q => by have q' : b = M1 := q; show b < M1 + 2; omega)) kk hkD
        subst e
        obtain ⟨x, hx⟩ : ∃ x, (fullD m)[kk].1 = x := ⟨_, rfl⟩
        obtain ⟨ar, har⟩ : ∃ ar, (fullD m)[kk].2 = ar := ⟨_, rfl⟩
        rw [hx] at p0
        rw [har] at p1
        have hdl : db < wr.heap.size := World.block_lt_of_cell? _ _ p0
        have hxa := H4.out.2.2.2.2.2.1 _ (List.getElem_mem hkD)
        rw [hx, har] at hxa
        have hcm : cmF ((fullD m).take (kk + 1)) = fun y => if y = x then (ar : Int) else cmF ((fullD m).take kk) y := by
          rw [List.take_succ_eq_append_getElem hkD, cmF_snoc, hx, har]
        have HX := Lib.hid (And.intro hxa.1 (And.intro hxa.2 hcm))
        have ar9 : ar ≤ 1000000 := hxa.2
        obtain ⟨TD, hTD⟩ : ∃ TD, wr.heap.size = TD := ⟨_, rfl⟩
        have hsw : M1 + 2 ≤ TD := by have := HS.out.2.size; omega
        clear hx har hxa hcm hdb
        go_upto_region 8 with fail
        try rw [hTD]
        obtain ⟨W5, hW5⟩ : ∃ W5, wr.alloc (.cells #[.string ⟨x.toArray⟩, .int .i64 (ar : Int)] 49) = W5 := ⟨_, rfl⟩
        rw [hW5]
        have f5 : Fr Nil wr W5 := by rw [← hW5]; (repeat (first | (with_reducible exact Fr.refl _ _) | (with_reducible assumption) | (with_reducible exact Fr.of_nil (by assumption)) | (with_reducible refine Fr.drew ?_) | (with_reducible refine Fr.drewN ?_ _) | (with_reducible refine Fr.alloc ?_ _) | (with_reducible refine Fr.set ?_ _ _ (by first | (intros; omega) | (simp; done) | (simp; omega))) | (with_reducible refine Fr.via ?_ (by assumption)) | (with_reducible refine Fr.comp ?_ (by assumption))))
        have b5 : Blk W5 TD #[.string ⟨x.toArray⟩, .int .i64 (ar : Int)] 49 := by rw [← hW5, ← hTD]; exact Blk.new _ _ _
        have bc5 := f5.blk (HS.out.2.blk H4.out.2.2.2.1 (fun q => by have q' : M1 + 1 = M1 := q; omega)) (fun q => q)
        have y0 := b5.cell 0
        have y1 := b5.cell 1
        have y2 := bc5.cell 0
        simp at y0 y1 y2
        have yl0 := b5.lt
        have yl2 := bc5.lt
        have H5 := Lib.hid (And.intro f5 (HS.out.1.frN f5))
        clear hW5 f5 b5 bc5 hTD p0 p1
        go_still_tail 8, (by kernel_rfl)
        change wpList _ _ _ _ _ W5.drew
        go_wp2_with (first
          | (at_mapUpdate; refine wp_putS _ Tryd.underlying61 rfl _ _ _ rfl M1 kk (cmF ((fullD m).take kk)) rfl (H5.out.2.fr (S := Nil) (by (repeat (first | (with_reducible exact Fr.refl _ _) | (with_reducible assumption) | (with_reducible exact Fr.of_nil (by assumption)) | (with_reducible refine Fr.drew ?_) | (with_reducible refine Fr.drewN ?_ _) | (with_reducible refine Fr.alloc ?_ _) | (with_reducible refine Fr.set ?_ _ _ (by first | (intros; omega) | (simp; done) | (simp; omega))) | (with_reducible refine Fr.via ?_ (by assumption)) | (with_reducible refine Fr.comp ?_ (by assumption))))) (fun q => q)) (by omega) x (ar : Int) rfl rfl HX.out.1 (wf_small (by omega) (by omega)) ?_; intro w6 hM6 f6 hz6; have H6 := Lib.hid (And.intro hM6 (Fr.comp (S := fun b => b = M1) (Fr.of_nil (by (repeat (first | (with_reducible exact Fr.refl _ _) | (with_reducible assumption) | (with_reducible exact Fr.of_nil (by assumption)) | (with_reducible refine Fr.drew ?_) | (with_reducible refine Fr.drewN ?_ _) | (with_reducible refine Fr.alloc ?_ _) | (with_reducible refine Fr.set ?_ _ _ (by first | (intros; omega) | (simp; done) | (simp; omega))) | (with_reducible refine Fr.via ?_ (by assumption)) | (with_reducible refine Fr.comp ?_ (by assumption)))))) f6 : Fr (fun b => b = M1) W5 w6)); clear hM6 f6 hz6)
          | fail)
        go_roundg (n4 - (kk + 1))
        case rel => exact ⟨kk + 1, rfl, by omega, by simp, Lib.hid ⟨by rw [HX.out.2.2]; exact H6.out.1, HS.out.2.comp ((Fr.of_nil H5.out.1).comp H6.out.2)⟩⟩
        case measure => omega
      · have j1 : ¬ (kk : Int) < (n4 : Int) := by omega
        obtain rfl : n4 = kk := by omega
        obtain ⟨W7, hW7⟩ : ∃ W, W = wr := ⟨_, rfl⟩
        subst hW7
        have hmp := HS.out.1
        rw [List.take_of_length_le (by rw [H4.out.2.2.1]; exact Nat.le_refl _)] at hmp
        have fw7 : Fr Nil w W7 := (H3.out.1.comp H4.out.2.1).trans HS.out.2 (fun b hb q => by have q' : b = M1 := q; have := H3.out.2.2.2.2.2; omega)
        have bc7 := HS.out.2.blk H4.out.2.2.2.1 (fun q => by have q' : M1 + 1 = M1 := q; omega)
        have bT7 := HS.out.2.blk H4.out.2.2.2.2.1 (fun q => by have q' : T = M1 := q; omega)
        have hk7 : KAt W7 (M1 + 1) (cmF (fullD m)) noF := ⟨M1, n4, bc7, hmp⟩
        obtain ⟨bc, hB1, hB2⟩ := HM.out.1.2.2.1
        have hB3 := HM.out.1.2.2.2
        rw [hB3] at hB1
        have hr7 : RowC (fun b => b = M1 + 1) W7 (.slice b1 nb b2) nb 10 bc := (hB1.mono (by decide) (fun b hb q => by have q' : b = M1 + 1 := q; have := H3.out.2.2.2.2.2; omega)).fr (S := Nil) fw7 (fun _ q => q.elim)
        have hb7 : ∀ i (h : i < m.binds.length), BAt (fun b => b = M1 + 1) W7 (bc i) m.binds[i] := fun i hi => lawB.fr (lawB.mono (hB2 i hi) (fun b hb q => by have q' : b = M1 + 1 := q; have := H3.out.2.2.2.2.2; omega)) fw7 (fun _ q => q.elim)
        have HA := Lib.hid (armain_any hk7 hB3 hr7 hb7)
        have t1 := bT7.cell 1
        simp at t1
        have tl := bT7.lt
        have H7 := Lib.hid (And.intro fw7 (And.intro bT7 (And.intro hr7 (And.intro hb7 hB3))))
        clear hmp fw7 bc7 bT7 hk7 hB1 hB2 hB3 hr7 hb7
        go_wp2_with fail
        refine HA.out.mono ?_
        rintro e W8 ⟨rfl, h8, f8⟩
        have bT8 := f8.blk H7.out.2.1 (fun q => by have q' : T = M1 + 1 := q; omega)
        have HB := Lib.hid (arbinds_any (fun b hb => ar_all _ _ (Nat.le_refl _) (okB_mem HM.out.2.2.2.1 hb).2.2 (wsB_mem HM.out.2.2.2.2.1 hb)) h8 H7.out.2.2.2.2 (H7.out.2.2.1.fr f8 (fun _ q => q)) (fun i hi => lawB.fr (H7.out.2.2.2.1 i hi) f8 (fun _ q => q)))
        clear t1 tl
        have t1 := bT8.cell 1
        simp at t1
        have tl := bT8.lt
        have fw8 : Fr Nil w W8 := H7.out.1.trans f8 (fun b hb q => by have q' : b = M1 + 1 := q; have := H3.out.2.2.2.2.2; omega)
        have H8 := Lib.hid fw8
        clear h8 f8 bT8 fw8 HA
        go_wp2_with fail
        refine HB.out.mono ?_
        rintro e W9 ⟨rfl, h9, f9⟩
        rw [HV.out] at h9
        obtain ⟨mc, K, hb9, hm9⟩ := h9
        have y1 := hb9.cell 1
        have y2 := hb9.cell 2
        simp at y1 y2
        have yl := hb9.lt
        have fw9 : Fr Nil w W9 := H8.out.trans f9 (fun b hb q => by have q' : b = M1 + 1 := q; have := H3.out.2.2.2.2.2; omega)
        have H9 := Lib.hid fw9
        clear hb9 hm9 f9 fw9 HB t1 tl
        go_wp2_with fail
        go_quiet (fail)
        go_wp2
        go_ret2
        exact ⟨rfl, Fr.comp (S := Nil) H9.out (by (repeat (first | (with_reducible exact Fr.refl _ _) | (with_reducible assumption) | (with_reducible exact Fr.of_nil (by assumption)) | (with_reducible refine Fr.drew ?_) | (with_reducible refine Fr.drewN ?_ _) | (with_reducible refine Fr.alloc ?_ _) | (with_reducible refine Fr.set ?_ _ _ (by first | (intros; omega) | (simp; done) | (simp; omega))) | (with_reducible refine Fr.via ?_ (by assumption)) | (with_reducible refine Fr.comp ?_ (by assumption)))))⟩
  · have hv : (SE, SN) = (RE, RN) := by
      rw [← HM.out.2.2.2.2.2.2.2.2.2, ← HM.out.2.2.2.2.2.2.2.2.1]
      unfold arF
      rw [if_neg (by rw [HM.out.2.2.2.2.2.2.2.2.1]; exact hr)]
    injection hv with q1 q2
    subst q1 q2
    have d1 : ((SE : Int) == 0) = false := by rw [beq_eq_false_iff_ne]; omega
    have e1 : ¬ (SE : Int) = 0 := by omega
    clear hr
    go_wp2
    go_ret2
    exact ⟨rfl, Fr.comp (S := Nil) H2.out.1 (by (repeat (first | (with_reducible exact Fr.refl _ _) | (with_reducible assumption) | (with_reducible exact Fr.of_nil (by assumption)) | (with_reducible refine Fr.drew ?_) | (with_reducible refine Fr.drewN ?_ _) | (with_reducible refine Fr.alloc ?_ _) | (with_reducible refine Fr.set ?_ _ _ (by first | (intros; omega) | (simp; done) | (simp; omega))) | (with_reducible refine Fr.via ?_ (by assumption)) | (with_reducible refine Fr.comp ?_ (by assumption)))))⟩
end
end Go.Proofs.YtpjlibbdngnnnaaDoor
