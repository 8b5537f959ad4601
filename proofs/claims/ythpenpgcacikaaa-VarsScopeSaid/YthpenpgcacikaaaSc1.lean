/-
  The document's scope (layer 10): a fault, names that come twice, constructors; lists joined; names of binds. No conditions.
-/
import Derived.Test.YthpenpgcacikaaaSc0
import Derived.Test.YthpenpgcacikaaaVarH
import Derived.Deep.RegionHeld3
namespace Go.Proofs.Ythpenpgcacikaaa
set_option linter.unusedSimpArgs false
set_option linter.unusedVariables false
open Go.RowKit

theorem RowS.takeS {X : Nat → Prop} {w : World} {a : Option Addr} {n cap k : Nat} {l : List (List UInt8)} (h : RowS X w (.slice a n cap) l) (hk : k ≤ l.length) : RowS X w (.slice a k cap) (l.take k) := by
  obtain ⟨a1, cap1, e, h1, h2, hc⟩ := h
  cases e
  have hl : (l.take k).length = k := by rw [List.length_take]; omega
  unfold RowS
  rw [hl]
  refine ⟨_, _, rfl, by omega, h2, fun i hi => ?_⟩
  obtain ⟨b, off, e, hb, hll, hcell⟩ := hc i (by omega)
  refine ⟨b, off, e, hb, rfl, fun j u hj => hcell j u ?_⟩
  have e2 : (l.take k).getD i [] = l.getD i [] := by
    rw [List.getD_eq_getElem?_getD, List.getElem?_take_of_lt hi, List.getD_eq_getElem?_getD]
  have hj2 : [Value.string ⟨((l.take k).getD i []).toArray⟩][j]? = some u := hj
  rw [e2] at hj2
  exact hj2
theorem RowS.srcS {X : Nat → Prop} {w : World} {a : Option Addr} {n cap : Nat} {l : List (List UInt8)} (h : RowS X w (.slice a n cap) l) (hn : l.length = n) : Src w a n 1 (strC l) := by
  rcases Nat.eq_zero_or_pos l.length with q | q
  · rw [List.length_eq_zero_iff] at q
    subst q
    subst hn
    cases a with
    | none => exact .inl ⟨rfl, rfl, rfl⟩
    | some ad => exact .inr ⟨ad, rfl, rfl, fun j u hj => by simp [strC] at hj⟩
  · obtain ⟨b, off, rfl, _, _⟩ := h.cell 0 q
    refine .inr ⟨_, rfl, by simp [strC, hn], fun j u hj => ?_⟩
    have hj2 : j < l.length := by
      have := (List.getElem?_eq_some_iff.1 hj).1
      simpa [strC] using this
    obtain ⟨b', off', e, _, p⟩ := h.cell j hj2
    cases e
    rw [add_at, p]
    simp [strC, hj2] at hj
    rw [← hj]
/-- The first fault as it lies, with the constructors' names. -/
structure SAt (w : World) (sb : Nat) (cons : List (List UInt8)) (s : FS) : Prop where
  b : ∃ cv, Blk w sb #[.int .i64 (s.1 : Int), .string ⟨s.2.toArray⟩, cv] 62 ∧ RowS (fun b => b = sb) w cv cons
section
variable {w w' : World} {sb : Nat} {cons l : List (List UInt8)} {s : FS} {lv : Value}
theorem SAt.fr (h : SAt w sb cons s) (f : Fr Nil w w') : SAt w' sb cons s := by
  obtain ⟨cv, h1, h2⟩ := h.b
  exact ⟨cv, f.blk h1 (fun q => q), RowS.fr h2 f (fun _ q => q.elim)⟩
theorem SAt.lt (h : SAt w sb cons s) : sb < w.heap.size := by
  obtain ⟨cv, h1, h2⟩ := h.b
  exact h1.lt
theorem fault_any (h : SAt w sb cons s) (e : Nat) (n : List UInt8) :
    Calls Try.prog 29 #[.pointer (some ⟨sb, 0, none⟩), .int .i64 (e : Int), .string ⟨n.toArray⟩] w fun r w' => r = .returned (.tuple #[]) ∧ SAt w' sb cons (fltS s e n) ∧ Fr (fun b => b = sb) w w' := by
  obtain ⟨cv, h1, h2⟩ := h.b
  have c0 := h1.cell 0
  have c1 := h1.cell 1
  simp at c0 c1
  have cf := h1.free
  have cl := h1.lt
  have HB := Lib.hid (And.intro h1 (And.intro h2 h))
  clear h h1 h2
  by_cases he : s.1 = 0
  · have e1 : fltS s e n = (e, n) := by unfold fltS; rw [if_pos he]
    rw [e1]
    have d1 : ((s.1 : Int) == 0) = true := by simp [he]
    clear he e1
    go_enter Try.func29, Try.ntmps29
    go_wp2
    go_end0
    have fz : Fr (fun b => b = sb) w ((w.setCell ⟨sb, 0, none⟩ (.int .i64 (e : Int))).setCell ⟨sb, 1, none⟩ (.string ⟨n.toArray⟩)) := by (repeat (first | (with_reducible exact Fr.refl _ _) | (with_reducible assumption) | (with_reducible exact Fr.of_nil (by assumption)) | (with_reducible refine Fr.drew ?_) | (with_reducible refine Fr.drewN ?_ _) | (with_reducible refine Fr.alloc ?_ _) | (with_reducible refine Fr.set ?_ _ _ (by first | (intro _; exact rfl) | (intro _; exact .inl rfl) | (intro _; exact .inr rfl) | (intro q; exact absurd q (Nat.lt_irrefl _)) | (intro q; simp at q; omega))) | (with_reducible refine Fr.via ?_ (by assumption)) | (with_reducible refine Fr.comp ?_ (by assumption))))
    refine ⟨rfl, ⟨cv, ?_, RowS.fr HB.out.2.1 fz (fun b q => q)⟩, fz⟩
    (unfold Blk; simp (disch := first | omega | (simp; done) | (simp; omega)) only [hp_drew, hp_drewN, hp_alloc, hp_other, hp_same, hp_new, upd_cells, Option.map_some, (HB.out.1).eq])
    simp
  · have e1 : fltS s e n = s := by unfold fltS; rw [if_neg he]
    rw [e1]
    have d1 : ((s.1 : Int) == 0) = false := beq_false_of_ne (by omega)
    clear he e1
    go_enter Try.func29, Try.ntmps29
    go_wp2
    go_end0
    exact ⟨rfl, HB.out.2.2.fr (by (repeat (first | (with_reducible exact Fr.refl _ _) | (with_reducible assumption) | (with_reducible exact Fr.of_nil (by assumption)) | (with_reducible refine Fr.drew ?_) | (with_reducible refine Fr.drewN ?_ _) | (with_reducible refine Fr.alloc ?_ _) | (with_reducible refine Fr.set ?_ _ _ (by first | (intros; omega) | (simp; done) | (simp; omega))) | (with_reducible refine Fr.via ?_ (by assumption)) | (with_reducible refine Fr.comp ?_ (by assumption))))), by (repeat (first | (with_reducible exact Fr.refl _ _) | (with_reducible assumption) | (with_reducible exact Fr.of_nil (by assumption)) | (with_reducible refine Fr.drew ?_) | (with_reducible refine Fr.drewN ?_ _) | (with_reducible refine Fr.alloc ?_ _) | (with_reducible refine Fr.set ?_ _ _ (by first | (intro _; exact rfl) | (intro _; exact .inl rfl) | (intro _; exact .inr rfl) | (intro q; exact absurd q (Nat.lt_irrefl _)) | (intro q; simp at q; omega))) | (with_reducible refine Fr.via ?_ (by assumption)) | (with_reducible refine Fr.comp ?_ (by assumption))))⟩
set_option maxRecDepth 100000 in
theorem con_any (h : SAt w sb cons s) (n : List UInt8) :
    Calls Try.prog 63 #[.pointer (some ⟨sb, 0, none⟩), .string ⟨n.toArray⟩] w fun r w' => r = .returned (.tuple #[]) ∧ SAt w' sb cons (conS cons n s) ∧ Fr (fun b => b = sb) w w' := by
  obtain ⟨cv, h1, h2⟩ := h.b
  obtain ⟨ca, cc, rfl⟩ := RowC.shape h2
  have c2 := h1.cell 2
  simp at c2
  have cl := h1.lt
  have hi := in_any n h2
  obtain ⟨nc, hnc⟩ : ∃ n, cons.length = n := ⟨_, rfl⟩
  rw [hnc] at hi c2
  have HB := Lib.hid h
  clear h h1 h2 hnc
  by_cases hn : n ∈ cons
  · have e1 : conS cons n s = s := by unfold conS; rw [if_pos hn]
    rw [e1]
    rw [decide_eq_true hn] at hi
    have HI := Lib.hid hi
    clear hn e1 hi
    go_enter Try.func63, Try.ntmps63
    go_wp2_with fail
    refine HI.out.mono ?_
    rintro e w1 ⟨rfl, f1⟩
    have HF := Lib.hid (And.intro (HB.out.fr f1) f1)
    clear f1
    go_wp2
    go_end0
    exact ⟨rfl, HF.out.1, HF.out.2.of_nil⟩
  · have e1 : conS cons n s = fltS s 4 n := by unfold conS; rw [if_neg hn]
    rw [e1]
    rw [decide_eq_false hn] at hi
    have HI := Lib.hid hi
    clear hn e1 hi
    go_enter Try.func63, Try.ntmps63
    go_wp2_with fail
    refine HI.out.mono ?_
    rintro e w1 ⟨rfl, f1⟩
    have HF := Lib.hid (And.intro (HB.out.fr f1) f1)
    clear f1
    go_wp2_with fail
    refine (fault_any HF.out.1 4 n).mono ?_
    rintro e w2 ⟨rfl, h2, f2⟩
    have H2 := Lib.hid (And.intro h2 ((HF.out.2.of_nil).comp f2))
    clear h2 f2
    go_wp2
    go_end0
    exact ⟨rfl, H2.out.1, H2.out.2⟩
set_option maxRecDepth 100000 in
set_option maxHeartbeats 2000000 in
theorem twice_any (h : SAt w sb cons s) (hl : RowS (fun b => b = sb) w lv l) (hl9 : l.length ≤ 1000000) :
    Calls Try.prog 27 #[.pointer (some ⟨sb, 0, none⟩), lv] w fun r w' => r = .returned (.tuple #[]) ∧ SAt w' sb cons (twF l s) ∧ Fr (fun b => b = sb) w w' := by
  obtain ⟨la, lc, rfl⟩ := RowC.shape hl
  obtain ⟨n, hn⟩ : ∃ n, l.length = n := ⟨_, rfl⟩
  obtain ⟨R, hR⟩ : ∃ R, twF l s = R := ⟨_, rfl⟩
  rw [hn, hR]
  rw [hn] at hl9 hl
  have hcap : n ≤ lc := by
    obtain ⟨_, _, e, q1, _, _⟩ := hl
    cases e
    omega
  have HV := Lib.hid (And.intro h (And.intro hl (And.intro hn hR)))
  clear h hl hn hR
  go_enter Try.func27, Try.ntmps27
  go_wp2_with fail
  go_loopg [4] n (fun g iv wr => ∃ k : Nat, g = n - k ∧ k ≤ n ∧ iv = .int .i64 (k : Int) ∧ Hid (SAt wr sb cons (twF (l.take k) s) ∧ Fr (fun b => b = sb) w wr))
  case atStart => exact ⟨0, rfl, by omega, rfl, Lib.hid ⟨by simpa [twF, twG] using HV.out.1, Fr.refl _ _⟩⟩
  case round =>
    obtain ⟨k, rfl, hk, rfl, HS⟩ := hrel
    have i0 : (0 : Int) ≤ (k : Int) := by omega
    by_cases hlt : k < n
    · have hkL : k < l.length := by rw [HV.out.2.2.1]; exact hlt
      have wk : IntKind.i64.wrap ((k : Int) + 1) = (k : Int) + 1 := by rw [IntKind.wrap_i64]; omega
      have i1 : (k : Int) < (n : Int) := by omega
      have hrx := RowS.fr HV.out.2.1 HS.out.2 (fun _ q => q)
      obtain ⟨ub, uo, rfl, hub, p0⟩ := hrx.cell k hkL
      obtain ⟨x, hx⟩ : ∃ x, l[k] = x := ⟨_, rfl⟩
      rw [hx] at p0
      have hstep := twF_take hkL s
      rw [hx] at hstep
      have hcap2 : k ≤ lc := by omega
      have hi := in_any x (RowS.takeS (RowS.fr hrx (Fr.drew (Fr.refl Nil wr)) (fun _ q => q.elim)) (Nat.le_of_lt hkL))
      have HP : Hid (∀ w', Fr Nil wr w' → w'.cell? ⟨ub, uo + k, none⟩ = some (.string ⟨x.toArray⟩)) := Lib.hid (fun w' f => f.cell p0 (fun q => q))
      by_cases q : x ∈ l.take k
      · rw [decide_eq_true q] at hi
        rw [if_pos q] at hstep
        have HI := Lib.hid hi
        have HQ := Lib.hid hstep
        clear hi hrx hx hstep q
        go_upto_region 3 with fail
        go_region_held3 (fun w' => w'.cell? ⟨ub, uo + k, none⟩ = some (.string ⟨x.toArray⟩)) (first | (with_reducible exact qa) | (with_reducible refine HP.out _ ?_; (repeat (first | (with_reducible exact Fr.refl _ _) | (with_reducible assumption) | (with_reducible exact Fr.of_nil (by assumption)) | (with_reducible refine Fr.drew ?_) | (with_reducible refine Fr.drewN ?_ _) | (with_reducible refine Fr.alloc ?_ _) | (with_reducible refine Fr.set ?_ _ _ (by first | (intros; omega) | (simp; done) | (simp; omega))) | (with_reducible refine Fr.via ?_ (by assumption)) | (with_reducible refine Fr.comp ?_ (by assumption)))))) (first
          | (go_at_call 11; refine HI.out.mono ?_; rintro e wa ⟨rfl, fa⟩; have fa' : Fr Nil wr wa := Fr.comp (S := Nil) (by (repeat (first | (with_reducible exact Fr.refl _ _) | (with_reducible assumption) | (with_reducible exact Fr.of_nil (by assumption)) | (with_reducible refine Fr.drew ?_) | (with_reducible refine Fr.drewN ?_ _) | (with_reducible refine Fr.alloc ?_ _) | (with_reducible refine Fr.set ?_ _ _ (by first | (intros; omega) | (simp; done) | (simp; omega))) | (with_reducible refine Fr.via ?_ (by assumption)) | (with_reducible refine Fr.comp ?_ (by assumption))))) fa; have qa := HP.out wa fa'; have HA := Lib.hid fa'; clear fa fa'))
        go_wp2_with fail
        refine (fault_any (HS.out.1.fr HA.out) 5 x).mono ?_
        rintro e w2 ⟨rfl, h2, f2⟩
        have H2 := Lib.hid (And.intro h2 (HS.out.2.trans ((HA.out.of_nil).comp f2) (fun _ _ q => q)))
        clear h2 f2 p0 qa
        go_wp2
        go_roundg (n - (k + 1))
        case rel => exact ⟨k + 1, rfl, by omega, by simp, Lib.hid ⟨by rw [HQ.out]; exact H2.out.1, H2.out.2⟩⟩
        case measure => omega
      · rw [decide_eq_false q] at hi
        rw [if_neg q] at hstep
        have HI := Lib.hid hi
        have HQ := Lib.hid hstep
        clear hi hrx hx hstep q
        go_upto_region 3 with fail
        go_region_held3 (fun w' => w'.cell? ⟨ub, uo + k, none⟩ = some (.string ⟨x.toArray⟩)) (first | (with_reducible exact qa) | (with_reducible refine HP.out _ ?_; (repeat (first | (with_reducible exact Fr.refl _ _) | (with_reducible assumption) | (with_reducible exact Fr.of_nil (by assumption)) | (with_reducible refine Fr.drew ?_) | (with_reducible refine Fr.drewN ?_ _) | (with_reducible refine Fr.alloc ?_ _) | (with_reducible refine Fr.set ?_ _ _ (by first | (intros; omega) | (simp; done) | (simp; omega))) | (with_reducible refine Fr.via ?_ (by assumption)) | (with_reducible refine Fr.comp ?_ (by assumption)))))) (first
          | (go_at_call 11; refine HI.out.mono ?_; rintro e wa ⟨rfl, fa⟩; have fa' : Fr Nil wr wa := Fr.comp (S := Nil) (by (repeat (first | (with_reducible exact Fr.refl _ _) | (with_reducible assumption) | (with_reducible exact Fr.of_nil (by assumption)) | (with_reducible refine Fr.drew ?_) | (with_reducible refine Fr.drewN ?_ _) | (with_reducible refine Fr.alloc ?_ _) | (with_reducible refine Fr.set ?_ _ _ (by first | (intros; omega) | (simp; done) | (simp; omega))) | (with_reducible refine Fr.via ?_ (by assumption)) | (with_reducible refine Fr.comp ?_ (by assumption))))) fa; have qa := HP.out wa fa'; have HA := Lib.hid fa'; clear fa fa'))
        go_wp2
        go_roundg (n - (k + 1))
        case rel => exact ⟨k + 1, rfl, by omega, by simp, Lib.hid ⟨by rw [HQ.out]; exact HS.out.1.fr HA.out, HS.out.2.via HA.out⟩⟩
        case measure => omega
    · have i1 : ¬ (k : Int) < (n : Int) := by omega
      obtain rfl : n = k := by omega
      have HF : Hid (SAt wr sb cons R ∧ Fr (fun b => b = sb) w wr) := Lib.hid (by
        have h := HS.out
        rw [List.take_of_length_le (by rw [HV.out.2.2.1]; exact Nat.le_refl _), HV.out.2.2.2] at h
        exact h)
      go_wp2
      go_end0
      exact ⟨rfl, HF.out.1, HF.out.2⟩
end
theorem fr_empty {w w1 : World} {t : TypeId} (g : (w.alloc (.cells #[] t)).grownBy w1 (Value.ownBlock (.slice (some ⟨w.heap.size, 0, none⟩) 0 0))) : Fr Nil w w1 :=
  Fr.grown (S := Nil) ((Fr.refl Nil w).alloc _) g (fun k q hk => by
    have e : some w.heap.size = some k := q
    injection e with e
    omega)
theorem own_first {w1 : World} {base n : Nat} {t : TypeId} {u : Value} {xs : List Value} (h : w1.ownsRow base t 1 u (0 + n) ([] ++ xs)) : w1.ownsRow base t 1 u n xs := by
  rw [Nat.zero_add, List.nil_append] at h
  exact h
section
variable {X X2 : Nat → Prop} {w : World} {av bv : Value} {a b : List (List UInt8)}
set_option maxRecDepth 100000 in
theorem join10_any (ha : RowS X w av a) (hb : RowS X2 w bv b) (hl9 : a.length + b.length ≤ 1000000) :
    Calls Try.prog 42 #[av, bv] w fun r w' => ∃ v', r = .returned v' ∧ w'.ownsRow w.heap.size 9 1 v' (a ++ b).length (strC (a ++ b)) ∧ Fr Nil w w' := by
  obtain ⟨i0, hi, hz0, hz1, hz2⟩ := info_parts infoS
  obtain ⟨aa, ac, rfl⟩ := RowC.shape ha
  obtain ⟨ba, bc, rfl⟩ := RowC.shape hb
  obtain ⟨na, hna⟩ : ∃ n, a.length = n := ⟨_, rfl⟩
  obtain ⟨nb, hnb⟩ : ∃ n, b.length = n := ⟨_, rfl⟩
  obtain ⟨R, hR⟩ : ∃ R, a ++ b = R := ⟨_, rfl⟩
  have hRl : R.length = na + nb := by rw [← hR, List.length_append, hna, hnb]
  rw [hna, hnb, hR]
  rw [hna, hnb] at hl9
  rw [hna] at ha
  rw [hnb] at hb
  have HV := Lib.hid (And.intro (RowS.nocare ha) (And.intro (RowS.nocare hb) (And.intro hna (And.intro hnb (And.intro hR hRl)))))
  clear ha hb hna hnb hR hRl
  go_enter Try.func42, Try.ntmps42
  go_wp2_with (first
    | (at_builtin; refine wpList_append_src rfl (.tmp 7) (.tmp 8) 25 rfl w.heap.size 9 i0 (.string ⟨#[]⟩) 1 16 Try.underlying25 hi hz0 hz1 hz2 rfl (by decide) u1 na (strC a) rfl H1.out.1 ba nb bc (strC b) rfl (RowS.srcS (RowS.fr HV.out.2.1 H1.out.2 (fun _ q => q.elim)) HV.out.2.2.2.1) strC_mem (by unfold maxLen; omega) (by omega) (by have := H1.out.2.size; omega) ?_; intro u2 w2 hown2 g2 hk2; have H2 := Lib.hid (And.intro hown2 (Fr.grown (S := Nil) H1.out.2 g2 (fun k q hk => by have := (H1.out.1.lt k q).1; omega))); clear hown2 g2 hk2)
    | (at_builtin; refine wpList_append_src rfl (.tmp 5) (.tmp 6) 25 rfl w.heap.size 9 i0 (.string ⟨#[]⟩) 1 16 Try.underlying25 hi hz0 hz1 hz2 rfl (by decide) (.slice (some ⟨w.heap.size, 0, none⟩) 0 0) 0 [] rfl (owns_empty _ _) aa na ac (strC a) rfl (RowS.srcS (RowS.fr HV.out.1 (S := Nil) (by (repeat (first | (with_reducible exact Fr.refl _ _) | (with_reducible assumption) | (with_reducible exact Fr.of_nil (by assumption)) | (with_reducible refine Fr.drew ?_) | (with_reducible refine Fr.drewN ?_ _) | (with_reducible refine Fr.alloc ?_ _) | (with_reducible refine Fr.set ?_ _ _ (by first | (intros; omega) | (simp; done) | (simp; omega))) | (with_reducible refine Fr.via ?_ (by assumption)) | (with_reducible refine Fr.comp ?_ (by assumption))))) (fun _ q => q.elim)) HV.out.2.2.1) strC_mem (by unfold maxLen; omega) (by omega) (by simp) ?_; intro u1 w1 hown1 g1 hk1; have H1 := Lib.hid (And.intro (own_first hown1) (fr_empty g1)); clear hown1 g1 hk1)
    | fail)
  have hR2 : w2.ownsRow w.heap.size 9 1 u2 R.length (strC R) := by
    have h := H2.out.1
    rw [← strC_app, HV.out.2.2.2.2.1] at h
    rw [HV.out.2.2.2.2.2]
    exact h
  obtain ⟨oa, oc, rfl⟩ := owns_shape hR2
  have H3 := Lib.hid hR2
  clear hR2
  go_ret
  exact ⟨_, rfl, H3.out, H2.out.2⟩
set_option maxRecDepth 100000 in
set_option maxHeartbeats 2000000 in
theorem names10_any {bs : List TB} (hb : BindsAt X w bv bs) (hl9 : bs.length ≤ 1000000) :
    Calls Try.prog 28 #[bv] w fun r w' => ∃ v', r = .returned v' ∧ w'.ownsRow w.heap.size 9 1 v' (nmB bs).length (strC (nmB bs)) ∧ Fr Nil w w' := by
  obtain ⟨i0, hi, hz0, hz1, hz2⟩ := info_parts infoS
  have hb := hb.nocare
  obtain ⟨ba, bc, rfl⟩ := hb.shape
  obtain ⟨n, hn⟩ : ∃ n, bs.length = n := ⟨_, rfl⟩
  have hnm : (nmB bs).length = n := by simp [nmB, hn]
  rw [hn] at hb hl9 ⊢
  have HV := Lib.hid (And.intro hb (And.intro hn hnm))
  clear hb hn hnm
  go_enter Try.func28, Try.ntmps28
  go_wp2_with fail
  go_loopg [3, 4] n (fun g vo iv wr => ∃ (k : Nat) (u : Value), u = vo ∧ g = n - k ∧ k ≤ n ∧ iv = .int .i64 (k : Int) ∧ Hid (wr.ownsRow w.heap.size 9 1 u k (strC (nmB (bs.take k))) ∧ Fr Nil w wr))
  case atStart => exact ⟨0, _, rfl, rfl, by omega, rfl, Lib.hid ⟨by simpa [strC, nmB] using World.ownsRow_nil _ _ _ _, Fr.refl _ _⟩⟩
  case round =>
    obtain ⟨k, u, rfl, rfl, hk, rfl, HS⟩ := hrel
    have j0 : (0 : Int) ≤ (k : Int) := by omega
    have hsz := HS.out.2.size
    by_cases hlt : k < n
    · have hkL : k < bs.length := by rw [HV.out.2.1]; exact hlt
      have wk : IntKind.i64.wrap ((k : Int) + 1) = (k : Int) + 1 := by rw [IntKind.wrap_i64]; omega
      have j1 : (k : Int) < (n : Int) := by omega
      obtain ⟨b, off, pa, pn, pc, c, rfl, hlb, _, _, _, _, hc⟩ := (HV.out.1.fr HS.out.2 (fun _ q => q.elim)).at hkL
      obtain ⟨p0, _, _⟩ := hc wr (Fr.refl _ _)
      obtain ⟨x, hx⟩ : ∃ x, bs[k].name = x := ⟨_, rfl⟩
      rw [hx] at p0
      have HX := Lib.hid hx
      clear hx hc
      go_wp2_with (first
        | (at_builtin; refine wpList_push rfl (.tmp 11) (.tmp 17) 25 rfl w.heap.size 9 i0 (.string ⟨#[]⟩) 1 16 Try.underlying25 hi hz0 hz1 hz2 rfl (by decide) u k (strC (nmB (bs.take k))) rfl HS.out.1 [.string ⟨x.toArray⟩] rfl rfl (by simp [Value.oneCell']) (by unfold maxLen; omega) (by omega) (by omega) ?_; intro v' w3 hown3 f3 hk3; have HO3 := Lib.hid (And.intro hown3 f3); clear hown3 f3 hk3)
        | fail)
      have hown := HS.out.1.lt
      have fw3 : Fr Nil w w3 := Fr.trans (S := Nil) HS.out.2 HO3.out.2 (fun q hq hk2 => by have := (hown q hk2).1; omega)
      go_roundg (n - (k + 1))
      case rel => exact ⟨k + 1, _, rfl, rfl, by omega, by simp, Lib.hid ⟨by rw [nmB_take hkL, strC_snoc, HX.out]; exact HO3.out.1, fw3⟩⟩
      case measure => omega
    · have j1 : ¬ (k : Int) < (n : Int) := by omega
      obtain rfl : n = k := by omega
      have HF : Hid (wr.ownsRow w.heap.size 9 1 u (nmB bs).length (strC (nmB bs)) ∧ Fr Nil w wr) := Lib.hid (by
        have h := HS.out
        rw [List.take_of_length_le (by rw [HV.out.2.1]; exact Nat.le_refl _)] at h
        rw [HV.out.2.2]
        exact h)
      obtain ⟨ua, uc, rfl⟩ := owns_shape HF.out.1
      go_wp2
      go_ret
      exact ⟨_, rfl, HF.out.1, HF.out.2⟩
end
end Go.Proofs.Ythpenpgcacikaaa
