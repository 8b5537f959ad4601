/-
  The document's scope (layer 10): its first fault. Conditions: a module as a source tells it.
-/
import Derived.Test.YtpjlibbdngnnnaaGreatDoorSpY
import Derived.Deep.RegionHeld3
import Derived.RangeFuncBox
namespace Go.Proofs.YtpjlibbdngnnnaaGreatDoor
set_option linter.unusedSimpArgs false
set_option linter.unusedVariables false
open Go.RowKit

theorem strC_app (a b : List (List UInt8)) : strC (a ++ b) = strC a ++ strC b := by simp [strC]

theorem strC_mem {l : List (List UInt8)} : ∀ u ∈ strC l, u.oneCell' = true := fun u hu => by
  obtain ⟨x, _, rfl⟩ := List.mem_map.1 hu
  rfl

theorem owns_empty (w : World) (t : TypeId) : (w.alloc (.cells #[] t)).ownsRow w.heap.size t 1 (.slice (some ⟨w.heap.size, 0, none⟩) 0 0) 0 [] :=
  ⟨rfl, .inr ⟨w.heap.size, 0, #[], rfl, Nat.le_refl _, Blk.new _ _ _, Nat.le_refl _, by unfold maxLen; omega, rfl, rfl⟩⟩

theorem owns_row {w : World} {base : Nat} {v : Value} {l : List (List UInt8)} (h : w.ownsRow base 9 1 v l.length (strC l)) : RowS (fun b => b < base) w v l := RowS.of_own h (fun _ q => q)

theorem mem_take_succ {x : List UInt8} {l : List (List UInt8)} {i : Nat} (hi : i < l.length) (h1 : x ∉ l.take i) (h2 : l[i] ≠ x) : x ∉ l.take (i + 1) := by
  rw [List.take_succ_eq_append_getElem hi]
  simp only [List.mem_append, List.mem_singleton, not_or]
  exact ⟨h1, fun q => h2 q.symm⟩

section
variable {X : Nat → Prop} {w : World} {v : Value} {l : List (List UInt8)}
set_option maxRecDepth 100000 in
theorem in_any (x : List UInt8) (h : RowS X w v l) :
    Calls Tryz.prog 36 #[v, .string ⟨x.toArray⟩] w fun r w' => r = .returned (.bool (decide (x ∈ l))) ∧ Fr Nil w w' := by
  obtain ⟨av, cv, rfl⟩ := RowC.shape h
  obtain ⟨N, hN⟩ : ∃ N, l.length = N := ⟨_, rfl⟩
  have hml := RowS.len h
  rw [hN] at hml
  have hmx : N ≤ 9223372036854775807 := hml
  have HV := Lib.hid (And.intro (RowS.nocare h) hN)
  rw [hN]
  clear h hN hml
  go_enter Tryz.func36, Tryz.ntmps36
  go_wp2_with fail
  go_loopg [5] N (fun g iv wr => ∃ k : Nat, g = N - k ∧ k ≤ N ∧ iv = .int .i64 (k : Int) ∧ Hid (x ∉ l.take k) ∧ Fr Nil w wr)
  case atStart => exact ⟨0, rfl, by omega, rfl, Lib.hid (by simp), Fr.refl _ _⟩
  case round =>
    obtain ⟨k, rfl, hk, rfl, HT, hw⟩ := hrel
    have i0 : (0 : Int) ≤ (k : Int) := by omega
    by_cases hlt : k < N
    · have wk : IntKind.i64.wrap ((k : Int) + 1) = (k : Int) + 1 := by rw [IntKind.wrap_i64]; omega
      have hkL : k < l.length := by rw [HV.out.2]; exact hlt
      obtain ⟨b, off, rfl, _, p0⟩ := (RowS.fr HV.out.1 hw (fun _ q => q.elim)).cell k hkL
      obtain ⟨tx, ex⟩ : ∃ x, l[k] = x := ⟨_, rfl⟩
      rw [ex] at p0
      have i1 : (k : Int) < (N : Int) := by omega
      have HE := Lib.hid ex
      clear ex
      by_cases q : tx = x
      · subst q
        have HQ := Lib.hid (show tx ∈ l from HE.out ▸ List.getElem_mem hkL)
        have HI := Lib.hid (show k < l.length ∧ tx ∉ l.take k ∧ l[k]? = some tx from ⟨hkL, HT.out, by rw [List.getElem?_eq_getElem hkL, HE.out]⟩)
        go_wp2
        go_ret
        exact ⟨by rw [decide_eq_true HQ.out]; rfl, by (repeat (first | (with_reducible exact Fr.refl _ _) | (with_reducible assumption) | (with_reducible exact Fr.of_nil (by assumption)) | (with_reducible refine Fr.drew ?_) | (with_reducible refine Fr.drewN ?_ _) | (with_reducible refine Fr.alloc ?_ _) | (with_reducible refine Fr.set ?_ _ _ (by first | (intros; omega) | (simp; done) | (simp; omega))) | (with_reducible refine Fr.via ?_ (by assumption)) | (with_reducible refine Fr.comp ?_ (by assumption))))⟩
      · have d1 : (tx == x) = false := by simpa using q
        have d2 : (x == tx) = false := by simpa using (fun z : x = tx => q z.symm)
        have HQ := Lib.hid (mem_take_succ hkL HT.out (by rw [HE.out]; exact q))
        clear q
        go_wp2
        go_roundg (N - (k + 1))
        case rel => exact ⟨k + 1, rfl, by omega, by simp, HQ, by (repeat (first | (with_reducible exact Fr.refl _ _) | (with_reducible assumption) | (with_reducible exact Fr.of_nil (by assumption)) | (with_reducible refine Fr.drew ?_) | (with_reducible refine Fr.drewN ?_ _) | (with_reducible refine Fr.alloc ?_ _) | (with_reducible refine Fr.set ?_ _ _ (by first | (intros; omega) | (simp; done) | (simp; omega))) | (with_reducible refine Fr.via ?_ (by assumption)) | (with_reducible refine Fr.comp ?_ (by assumption))))⟩
        case measure => omega
    · have i1 : ¬ (k : Int) < (N : Int) := by omega
      have HQ := Lib.hid (show x ∉ l from by have := HT.out; rw [List.take_of_length_le (by rw [HV.out.2]; omega)] at this; exact this)
      go_wp2
      go_ret
      exact ⟨by rw [decide_eq_false HQ.out]; rfl, by (repeat (first | (with_reducible exact Fr.refl _ _) | (with_reducible assumption) | (with_reducible exact Fr.of_nil (by assumption)) | (with_reducible refine Fr.drew ?_) | (with_reducible refine Fr.drewN ?_ _) | (with_reducible refine Fr.alloc ?_ _) | (with_reducible refine Fr.set ?_ _ _ (by first | (intros; omega) | (simp; done) | (simp; omega))) | (with_reducible refine Fr.via ?_ (by assumption)) | (with_reducible refine Fr.comp ?_ (by assumption))))⟩
end


theorem RowS.takeS {X : Nat → Prop} {w : World} {a : Option Addr} {n cap k : Nat} {l : List (List UInt8)} (h : RowS X w (.slice a n cap) l) (hk : k ≤ l.length) : RowS X w (.slice a k cap) (l.take k) := by
  obtain ⟨a1, cap1, e, h1, h2, hc⟩ := h
  cases e
  have hl : (l.take k).length = k := by rw [List.length_take]; omega
  unfold RowS
  rw [hl]
  refine ⟨_, _, rfl, by omega, h2, fun i hi => ?_⟩
  obtain ⟨b, off, e, hb, hll, hcell⟩ := hc i (by omega)
  refine ⟨b, off, e, hb, rfl, fun j u hj => hcell j u ?_⟩
  have e2 : (l.take k).getD i [] = l.getD i [] := by
    rw [List.getD_eq_getElem?_getD, List.getElem?_take_of_lt hi, List.getD_eq_getElem?_getD]
  have hj2 : [Value.string ⟨((l.take k).getD i []).toArray⟩][j]? = some u := hj
  rw [e2] at hj2
  exact hj2
theorem RowS.srcS {X : Nat → Prop} {w : World} {a : Option Addr} {n cap : Nat} {l : List (List UInt8)} (h : RowS X w (.slice a n cap) l) (hn : l.length = n) : Src w a n 1 (strC l) := by
  rcases Nat.eq_zero_or_pos l.length with q | q
  · rw [List.length_eq_zero_iff] at q
    subst q
    subst hn
    cases a with
    | none => exact .inl ⟨rfl, rfl, rfl⟩
    | some ad => exact .inr ⟨ad, rfl, rfl, fun j u hj => by simp [strC] at hj⟩
  · obtain ⟨b, off, rfl, _, _⟩ := h.cell 0 q
    refine .inr ⟨_, rfl, by simp [strC, hn], fun j u hj => ?_⟩
    have hj2 : j < l.length := by
      have := (List.getElem?_eq_some_iff.1 hj).1
      simpa [strC] using this
    obtain ⟨b', off', e, _, p⟩ := h.cell j hj2
    cases e
    rw [add_at, p]
    simp [strC, hj2] at hj
    rw [← hj]
/-- The first fault as it lies, with the constructors' names. -/
structure SAt (w : World) (sb : Nat) (cons : List (List UInt8)) (s : FS) : Prop where
  b : ∃ cv, Blk w sb #[.int .i64 (s.1 : Int), .string ⟨s.2.toArray⟩, cv] 81 ∧ RowS (fun b => b = sb) w cv cons
section
variable {w w' : World} {sb : Nat} {cons l : List (List UInt8)} {s : FS} {lv : Value}
theorem SAt.fr (h : SAt w sb cons s) (f : Fr Nil w w') : SAt w' sb cons s := by
  obtain ⟨cv, h1, h2⟩ := h.b
  exact ⟨cv, f.blk h1 (fun q => q), RowS.fr h2 f (fun _ q => q.elim)⟩
theorem SAt.lt (h : SAt w sb cons s) : sb < w.heap.size := by
  obtain ⟨cv, h1, h2⟩ := h.b
  exact h1.lt
theorem fault_any (h : SAt w sb cons s) (e : Nat) (n : List UInt8) :
    Calls Tryz.prog 37 #[.pointer (some ⟨sb, 0, none⟩), .int .i64 (e : Int), .string ⟨n.toArray⟩] w fun r w' => r = .returned (.tuple #[]) ∧ SAt w' sb cons (fltS s e n) ∧ Fr (fun b => b = sb) w w' := by
  obtain ⟨cv, h1, h2⟩ := h.b
  have c0 := h1.cell 0
  have c1 := h1.cell 1
  simp at c0 c1
  have cf := h1.free
  have cl := h1.lt
  have HB := Lib.hid (And.intro h1 (And.intro h2 h))
  clear h h1 h2
  by_cases he : s.1 = 0
  · have e1 : fltS s e n = (e, n) := by unfold fltS; rw [if_pos he]
    rw [e1]
    have d1 : ((s.1 : Int) == 0) = true := by simp [he]
    clear he e1
    go_enter Tryz.func37, Tryz.ntmps37
    go_wp2
    go_end0
    have fz : Fr (fun b => b = sb) w ((w.setCell ⟨sb, 0, none⟩ (.int .i64 (e : Int))).setCell ⟨sb, 1, none⟩ (.string ⟨n.toArray⟩)) := by (repeat (first | (with_reducible exact Fr.refl _ _) | (with_reducible assumption) | (with_reducible exact Fr.of_nil (by assumption)) | (with_reducible refine Fr.drew ?_) | (with_reducible refine Fr.drewN ?_ _) | (with_reducible refine Fr.alloc ?_ _) | (with_reducible refine Fr.set ?_ _ _ (by first | (intro _; exact rfl) | (intro _; exact .inl rfl) | (intro _; exact .inr rfl) | (intro q; exact absurd q (Nat.lt_irrefl _)) | (intro q; simp at q; omega))) | (with_reducible refine Fr.via ?_ (by assumption)) | (with_reducible refine Fr.comp ?_ (by assumption))))
    refine ⟨rfl, ⟨cv, ?_, RowS.fr HB.out.2.1 fz (fun b q => q)⟩, fz⟩
    (unfold Blk; simp (disch := first | omega | (simp; done) | (simp; omega)) only [hp_drew, hp_drewN, hp_alloc, hp_other, hp_same, hp_new, upd_cells, Option.map_some, (HB.out.1).eq])
    simp
  · have e1 : fltS s e n = s := by unfold fltS; rw [if_neg he]
    rw [e1]
    have d1 : ((s.1 : Int) == 0) = false := beq_false_of_ne (by omega)
    clear he e1
    go_enter Tryz.func37, Tryz.ntmps37
    go_wp2
    go_end0
    exact ⟨rfl, HB.out.2.2.fr (by (repeat (first | (with_reducible exact Fr.refl _ _) | (with_reducible assumption) | (with_reducible exact Fr.of_nil (by assumption)) | (with_reducible refine Fr.drew ?_) | (with_reducible refine Fr.drewN ?_ _) | (with_reducible refine Fr.alloc ?_ _) | (with_reducible refine Fr.set ?_ _ _ (by first | (intros; omega) | (simp; done) | (simp; omega))) | (with_reducible refine Fr.via ?_ (by assumption)) | (with_reducible refine Fr.comp ?_ (by assumption))))), by (repeat (first | (with_reducible exact Fr.refl _ _) | (with_reducible assumption) | (with_reducible exact Fr.of_nil (by assumption)) | (with_reducible refine Fr.drew ?_) | (with_reducible refine Fr.drewN ?_ _) | (with_reducible refine Fr.alloc ?_ _) | (with_reducible refine Fr.set ?_ _ _ (by first | (intro _; exact rfl) | (intro _; exact .inl rfl) | (intro _; exact .inr rfl) | (intro q; exact absurd q (Nat.lt_irrefl _)) | (intro q; simp at q; omega))) | (with_reducible refine Fr.via ?_ (by assumption)) | (with_reducible refine Fr.comp ?_ (by assumption))))⟩
set_option maxRecDepth 100000 in
theorem con_any (h : SAt w sb cons s) (n : List UInt8) :
    Calls Tryz.prog 120 #[.pointer (some ⟨sb, 0, none⟩), .string ⟨n.toArray⟩] w fun r w' => r = .returned (.tuple #[]) ∧ SAt w' sb cons (conS cons n s) ∧ Fr (fun b => b = sb) w w' := by
  obtain ⟨cv, h1, h2⟩ := h.b
  obtain ⟨ca, cc, rfl⟩ := RowC.shape h2
  have c2 := h1.cell 2
  simp at c2
  have cl := h1.lt
  have hi := in_any n h2
  obtain ⟨nc, hnc⟩ : ∃ n, cons.length = n := ⟨_, rfl⟩
  rw [hnc] at hi c2
  have HB := Lib.hid h
  clear h h1 h2 hnc
  by_cases hn : n ∈ cons
  · have e1 : conS cons n s = s := by unfold conS; rw [if_pos hn]
    rw [e1]
    rw [decide_eq_true hn] at hi
    have HI := Lib.hid hi
    clear hn e1 hi
    go_enter Tryz.func120, Tryz.ntmps120
    go_wp2_with fail
    refine HI.out.mono ?_
    rintro e w1 ⟨rfl, f1⟩
    have HF := Lib.hid (And.intro (HB.out.fr f1) f1)
    clear f1
    go_wp2
    go_end0
    exact ⟨rfl, HF.out.1, HF.out.2.of_nil⟩
  · have e1 : conS cons n s = fltS s 4 n := by unfold conS; rw [if_neg hn]
    rw [e1]
    rw [decide_eq_false hn] at hi
    have HI := Lib.hid hi
    clear hn e1 hi
    go_enter Tryz.func120, Tryz.ntmps120
    go_wp2_with fail
    refine HI.out.mono ?_
    rintro e w1 ⟨rfl, f1⟩
    have HF := Lib.hid (And.intro (HB.out.fr f1) f1)
    clear f1
    go_wp2_with fail
    refine (fault_any HF.out.1 4 n).mono ?_
    rintro e w2 ⟨rfl, h2, f2⟩
    have H2 := Lib.hid (And.intro h2 ((HF.out.2.of_nil).comp f2))
    clear h2 f2
    go_wp2
    go_end0
    exact ⟨rfl, H2.out.1, H2.out.2⟩
set_option maxRecDepth 100000 in
set_option maxHeartbeats 2000000 in
theorem ztwice_any (h : SAt w sb cons s) (hl : RowS (fun b => b = sb) w lv l) (hl9 : l.length ≤ 1000000) :
    Calls Tryz.prog 34 #[.pointer (some ⟨sb, 0, none⟩), lv] w fun r w' => r = .returned (.tuple #[]) ∧ SAt w' sb cons (twF l s) ∧ Fr (fun b => b = sb) w w' := by
  obtain ⟨la, lc, rfl⟩ := RowC.shape hl
  obtain ⟨n, hn⟩ : ∃ n, l.length = n := ⟨_, rfl⟩
  obtain ⟨R, hR⟩ : ∃ R, twF l s = R := ⟨_, rfl⟩
  rw [hn, hR]
  rw [hn] at hl9 hl
  have hcap : n ≤ lc := by
    obtain ⟨_, _, e, q1, _, _⟩ := hl
    cases e
    omega
  have HV := Lib.hid (And.intro h (And.intro hl (And.intro hn hR)))
  clear h hl hn hR
  go_enter Tryz.func34, Tryz.ntmps34
  go_wp2_with fail
  go_loopg [4] n (fun g iv wr => ∃ k : Nat, g = n - k ∧ k ≤ n ∧ iv = .int .i64 (k : Int) ∧ Hid (SAt wr sb cons (twF (l.take k) s) ∧ Fr (fun b => b = sb) w wr))
  case atStart => exact ⟨0, rfl, by omega, rfl, Lib.hid ⟨by simpa [twF, twG] using HV.out.1, Fr.refl _ _⟩⟩
  case round =>
    obtain ⟨k, rfl, hk, rfl, HS⟩ := hrel
    have i0 : (0 : Int) ≤ (k : Int) := by omega
    by_cases hlt : k < n
    · have hkL : k < l.length := by rw [HV.out.2.2.1]; exact hlt
      have wk : IntKind.i64.wrap ((k : Int) + 1) = (k : Int) + 1 := by rw [IntKind.wrap_i64]; omega
      have i1 : (k : Int) < (n : Int) := by omega
      have hrx := RowS.fr HV.out.2.1 HS.out.2 (fun _ q => q)
      obtain ⟨ub, uo, rfl, hub, p0⟩ := hrx.cell k hkL
      obtain ⟨x, hx⟩ : ∃ x, l[k] = x := ⟨_, rfl⟩
      rw [hx] at p0
      have hstep := twF_take hkL s
      rw [hx] at hstep
      have hcap2 : k ≤ lc := by omega
      have hi := in_any x (RowS.takeS (RowS.fr hrx (Fr.drew (Fr.refl Nil wr)) (fun _ q => q.elim)) (Nat.le_of_lt hkL))
      have HP : Hid (∀ w', Fr Nil wr w' → w'.cell? ⟨ub, uo + k, none⟩ = some (.string ⟨x.toArray⟩)) := Lib.hid (fun w' f => f.cell p0 (fun q => q))
      by_cases q : x ∈ l.take k
      · rw [decide_eq_true q] at hi
        rw [if_pos q] at hstep
        have HI := Lib.hid hi
        have HQ := Lib.hid hstep
        clear hi hrx hx hstep q
        go_upto_region 3 with fail
        go_region_held3 (fun w' => w'.cell? ⟨ub, uo + k, none⟩ = some (.string ⟨x.toArray⟩)) (first | (with_reducible exact qa) | (with_reducible refine HP.out _ ?_; (repeat (first | (with_reducible exact Fr.refl _ _) | (with_reducible assumption) | (with_reducible exact Fr.of_nil (by assumption)) | (with_reducible refine Fr.drew ?_) | (with_reducible refine Fr.drewN ?_ _) | (with_reducible refine Fr.alloc ?_ _) | (with_reducible refine Fr.set ?_ _ _ (by first | (intros; omega) | (simp; done) | (simp; omega))) | (with_reducible refine Fr.via ?_ (by assumption)) | (with_reducible refine Fr.comp ?_ (by assumption)))))) (first
          | (go_at_call 36; refine HI.out.mono ?_; rintro e wa ⟨rfl, fa⟩; have fa' : Fr Nil wr wa := Fr.comp (S := Nil) (by (repeat (first | (with_reducible exact Fr.refl _ _) | (with_reducible assumption) | (with_reducible exact Fr.of_nil (by assumption)) | (with_reducible refine Fr.drew ?_) | (with_reducible refine Fr.drewN ?_ _) | (with_reducible refine Fr.alloc ?_ _) | (with_reducible refine Fr.set ?_ _ _ (by first | (intros; omega) | (simp; done) | (simp; omega))) | (with_reducible refine Fr.via ?_ (by assumption)) | (with_reducible refine Fr.comp ?_ (by assumption))))) fa; have qa := HP.out wa fa'; have HA := Lib.hid fa'; clear fa fa'))
        go_wp2_with fail
        refine (fault_any (HS.out.1.fr HA.out) 5 x).mono ?_
        rintro e w2 ⟨rfl, h2, f2⟩
        have H2 := Lib.hid (And.intro h2 (HS.out.2.trans ((HA.out.of_nil).comp f2) (fun _ _ q => q)))
        clear h2 f2 p0 qa
        go_wp2
        go_roundg (n - (k + 1))
        case rel => exact ⟨k + 1, rfl, by omega, by simp, Lib.hid ⟨by rw [HQ.out]; exact H2.out.1, H2.out.2⟩⟩
        case measure => omega
      · rw [decide_eq_false q] at hi
        rw [if_neg q] at hstep
        have HI := Lib.hid hi
        have HQ := Lib.hid hstep
        clear hi hrx hx hstep q
        go_upto_region 3 with fail
        go_region_held3 (fun w' => w'.cell? ⟨ub, uo + k, none⟩ = some (.string ⟨x.toArray⟩)) (first | (with_reducible exact qa) | (with_reducible refine HP.out _ ?_; (repeat (first | (with_reducible exact Fr.refl _ _) | (with_reducible assumption) | (with_reducible exact Fr.of_nil (by assumption)) | (with_reducible refine Fr.drew ?_) | (with_reducible refine Fr.drewN ?_ _) | (with_reducible refine Fr.alloc ?_ _) | (with_reducible refine Fr.set ?_ _ _ (by first | (intros; omega) | (simp; done) | (simp; omega))) | (with_reducible refine Fr.via ?_ (by assumption)) | (with_reducible refine Fr.comp ?_ (by assumption)))))) (first
          | (go_at_call 36; refine HI.out.mono ?_; rintro e wa ⟨rfl, fa⟩; have fa' : Fr Nil wr wa := Fr.comp (S := Nil) (by (repeat (first | (with_reducible exact Fr.refl _ _) | (with_reducible assumption) | (with_reducible exact Fr.of_nil (by assumption)) | (with_reducible refine Fr.drew ?_) | (with_reducible refine Fr.drewN ?_ _) | (with_reducible refine Fr.alloc ?_ _) | (with_reducible refine Fr.set ?_ _ _ (by first | (intros; omega) | (simp; done) | (simp; omega))) | (with_reducible refine Fr.via ?_ (by assumption)) | (with_reducible refine Fr.comp ?_ (by assumption))))) fa; have qa := HP.out wa fa'; have HA := Lib.hid fa'; clear fa fa'))
        go_wp2
        go_roundg (n - (k + 1))
        case rel => exact ⟨k + 1, rfl, by omega, by simp, Lib.hid ⟨by rw [HQ.out]; exact HS.out.1.fr HA.out, HS.out.2.via HA.out⟩⟩
        case measure => omega
    · have i1 : ¬ (k : Int) < (n : Int) := by omega
      obtain rfl : n = k := by omega
      have HF : Hid (SAt wr sb cons R ∧ Fr (fun b => b = sb) w wr) := Lib.hid (by
        have h := HS.out
        rw [List.take_of_length_le (by rw [HV.out.2.2.1]; exact Nat.le_refl _), HV.out.2.2.2] at h
        exact h)
      go_wp2
      go_end0
      exact ⟨rfl, HF.out.1, HF.out.2⟩
end
theorem fr_empty {w w1 : World} {t : TypeId} (g : (w.alloc (.cells #[] t)).grownBy w1 (Value.ownBlock (.slice (some ⟨w.heap.size, 0, none⟩) 0 0))) : Fr Nil w w1 :=
  Fr.grown (S := Nil) ((Fr.refl Nil w).alloc _) g (fun k q hk => by
    have e : some w.heap.size = some k := q
    injection e with e
    omega)
theorem own_first {w1 : World} {base n : Nat} {t : TypeId} {u : Value} {xs : List Value} (h : w1.ownsRow base t 1 u (0 + n) ([] ++ xs)) : w1.ownsRow base t 1 u n xs := by
  rw [Nat.zero_add, List.nil_append] at h
  exact h
section
variable {X X2 : Nat → Prop} {w : World} {av bv : Value} {a b : List (List UInt8)}
set_option maxRecDepth 100000 in
theorem join10_any (ha : RowS X w av a) (hb : RowS X2 w bv b) (hl9 : a.length + b.length ≤ 1000000) :
    Calls Tryz.prog 71 #[av, bv] w fun r w' => ∃ v', r = .returned v' ∧ w'.ownsRow w.heap.size 9 1 v' (a ++ b).length (strC (a ++ b)) ∧ Fr Nil w w' := by
  obtain ⟨i0, hi, hz0, hz1, hz2⟩ := info_parts infoS
  obtain ⟨aa, ac, rfl⟩ := RowC.shape ha
  obtain ⟨ba, bc, rfl⟩ := RowC.shape hb
  obtain ⟨na, hna⟩ : ∃ n, a.length = n := ⟨_, rfl⟩
  obtain ⟨nb, hnb⟩ : ∃ n, b.length = n := ⟨_, rfl⟩
  obtain ⟨R, hR⟩ : ∃ R, a ++ b = R := ⟨_, rfl⟩
  have hRl : R.length = na + nb := by rw [← hR, List.length_append, hna, hnb]
  rw [hna, hnb, hR]
  rw [hna, hnb] at hl9
  rw [hna] at ha
  rw [hnb] at hb
  have HV := Lib.hid (And.intro (RowS.nocare ha) (And.intro (RowS.nocare hb) (And.intro hna (And.intro hnb (And.intro hR hRl)))))
  clear ha hb hna hnb hR hRl
  go_enter Tryz.func71, Tryz.ntmps71
  go_wp2_with (first
    | (at_builtin; refine wpList_append_src rfl (.tmp 7) (.tmp 8) 43 rfl w.heap.size 9 i0 (.string ⟨#[]⟩) 1 16 Tryz.underlying43 hi hz0 hz1 hz2 rfl (by decide) u1 na (strC a) rfl H1.out.1 ba nb bc (strC b) rfl (RowS.srcS (RowS.fr HV.out.2.1 H1.out.2 (fun _ q => q.elim)) HV.out.2.2.2.1) strC_mem (by unfold maxLen; omega) (by omega) (by have := H1.out.2.size; omega) ?_; intro u2 w2 hown2 g2 hk2; have H2 := Lib.hid (And.intro hown2 (Fr.grown (S := Nil) H1.out.2 g2 (fun k q hk => by have := (H1.out.1.lt k q).1; omega))); clear hown2 g2 hk2)
    | (at_builtin; refine wpList_append_src rfl (.tmp 5) (.tmp 6) 43 rfl w.heap.size 9 i0 (.string ⟨#[]⟩) 1 16 Tryz.underlying43 hi hz0 hz1 hz2 rfl (by decide) (.slice (some ⟨w.heap.size, 0, none⟩) 0 0) 0 [] rfl (owns_empty _ _) aa na ac (strC a) rfl (RowS.srcS (RowS.fr HV.out.1 (S := Nil) (by (repeat (first | (with_reducible exact Fr.refl _ _) | (with_reducible assumption) | (with_reducible exact Fr.of_nil (by assumption)) | (with_reducible refine Fr.drew ?_) | (with_reducible refine Fr.drewN ?_ _) | (with_reducible refine Fr.alloc ?_ _) | (with_reducible refine Fr.set ?_ _ _ (by first | (intros; omega) | (simp; done) | (simp; omega))) | (with_reducible refine Fr.via ?_ (by assumption)) | (with_reducible refine Fr.comp ?_ (by assumption))))) (fun _ q => q.elim)) HV.out.2.2.1) strC_mem (by unfold maxLen; omega) (by omega) (by simp) ?_; intro u1 w1 hown1 g1 hk1; have H1 := Lib.hid (And.intro (own_first hown1) (fr_empty g1)); clear hown1 g1 hk1)
    | fail)
  have hR2 : w2.ownsRow w.heap.size 9 1 u2 R.length (strC R) := by
    have h := H2.out.1
    rw [← strC_app, HV.out.2.2.2.2.1] at h
    rw [HV.out.2.2.2.2.2]
    exact h
  obtain ⟨oa, oc, rfl⟩ := owns_shape hR2
  have H3 := Lib.hid hR2
  clear hR2
  go_ret
  exact ⟨_, rfl, H3.out, H2.out.2⟩
set_option maxRecDepth 100000 in
set_option maxHeartbeats 2000000 in
theorem names10_any {bs : List TB} (hb : BindsAt X w bv bs) (hl9 : bs.length ≤ 1000000) :
    Calls Tryz.prog 35 #[bv] w fun r w' => ∃ v', r = .returned v' ∧ w'.ownsRow w.heap.size 9 1 v' (nmB bs).length (strC (nmB bs)) ∧ Fr Nil w w' := by
  obtain ⟨i0, hi, hz0, hz1, hz2⟩ := info_parts infoS
  have hb := hb.nocare
  obtain ⟨ba, bc, rfl⟩ := hb.shape
  obtain ⟨n, hn⟩ : ∃ n, bs.length = n := ⟨_, rfl⟩
  have hnm : (nmB bs).length = n := by simp [nmB, hn]
  rw [hn] at hb hl9 ⊢
  have HV := Lib.hid (And.intro hb (And.intro hn hnm))
  clear hb hn hnm
  go_enter Tryz.func35, Tryz.ntmps35
  go_wp2_with fail
  go_loopg [3, 4] n (fun g vo iv wr => ∃ (k : Nat) (u : Value), u = vo ∧ g = n - k ∧ k ≤ n ∧ iv = .int .i64 (k : Int) ∧ Hid (wr.ownsRow w.heap.size 9 1 u k (strC (nmB (bs.take k))) ∧ Fr Nil w wr))
  case atStart => exact ⟨0, _, rfl, rfl, by omega, rfl, Lib.hid ⟨by simpa [strC, nmB] using World.ownsRow_nil _ _ _ _, Fr.refl _ _⟩⟩
  case round =>
    obtain ⟨k, u, rfl, rfl, hk, rfl, HS⟩ := hrel
    have j0 : (0 : Int) ≤ (k : Int) := by omega
    have hsz := HS.out.2.size
    by_cases hlt : k < n
    · have hkL : k < bs.length := by rw [HV.out.2.1]; exact hlt
      have wk : IntKind.i64.wrap ((k : Int) + 1) = (k : Int) + 1 := by rw [IntKind.wrap_i64]; omega
      have j1 : (k : Int) < (n : Int) := by omega
      obtain ⟨b, off, pa, pn, pc, c, rfl, hlb, _, _, _, _, hc⟩ := (HV.out.1.fr HS.out.2 (fun _ q => q.elim)).at hkL
      obtain ⟨p0, _, _⟩ := hc wr (Fr.refl _ _)
      obtain ⟨x, hx⟩ : ∃ x, bs[k].name = x := ⟨_, rfl⟩
      rw [hx] at p0
      have HX := Lib.hid hx
      clear hx hc
      go_wp2_with (first
        | (at_builtin; refine wpList_push rfl (.tmp 11) (.tmp 17) 43 rfl w.heap.size 9 i0 (.string ⟨#[]⟩) 1 16 Tryz.underlying43 hi hz0 hz1 hz2 rfl (by decide) u k (strC (nmB (bs.take k))) rfl HS.out.1 [.string ⟨x.toArray⟩] rfl rfl (by simp [Value.oneCell']) (by unfold maxLen; omega) (by omega) (by omega) ?_; intro v' w3 hown3 f3 hk3; have HO3 := Lib.hid (And.intro hown3 f3); clear hown3 f3 hk3)
        | fail)
      have hown := HS.out.1.lt
      have fw3 : Fr Nil w w3 := Fr.trans (S := Nil) HS.out.2 HO3.out.2 (fun q hq hk2 => by have := (hown q hk2).1; omega)
      go_roundg (n - (k + 1))
      case rel => exact ⟨k + 1, _, rfl, rfl, by omega, by simp, Lib.hid ⟨by rw [nmB_take hkL, strC_snoc, HX.out]; exact HO3.out.1, fw3⟩⟩
      case measure => omega
    · have j1 : ¬ (k : Int) < (n : Int) := by omega
      obtain rfl : n = k := by omega
      have HF : Hid (wr.ownsRow w.heap.size 9 1 u (nmB bs).length (strC (nmB bs)) ∧ Fr Nil w wr) := Lib.hid (by
        have h := HS.out
        rw [List.take_of_length_le (by rw [HV.out.2.1]; exact Nat.le_refl _)] at h
        rw [HV.out.2.2]
        exact h)
      obtain ⟨ua, uc, rfl⟩ := owns_shape HF.out.1
      go_wp2
      go_ret
      exact ⟨_, rfl, HF.out.1, HF.out.2⟩
end


/-- What expr does of an expression. -/
def ScOk (cons : List (List UInt8)) (e : TE) : Prop := ∀ (w : World) (sb : Nat) (s : FS) (i : List (List UInt8)) (iv : Value) (cs : List Value), SAt w sb cons s → EAt (fun b => b = sb) w cs e → RowS (fun b => b = sb) w iv i → i.length + wtE e ≤ 900000 →
  Calls Tryz.prog 70 #[.pointer (some ⟨sb, 0, none⟩), .agg cs.toArray, iv] w fun r w' => r = .returned (.tuple #[]) ∧ SAt w' sb cons (scE cons e i s) ∧ Fr (fun b => b = sb) w w'
section
variable {w : World} {sb : Nat} {cons i : List (List UInt8)} {s : FS} {iv bv : Value}
/-- A row joined to another one, as a value. -/
theorem join10_row {X X2 : Nat → Prop} {av bv : Value} {a b R : List (List UInt8)} {M : Nat} (ha : RowS X w av a) (hb : RowS X2 w bv b) (hl9 : a.length + b.length ≤ 1000000) (hsb : sb < w.heap.size) (hR : a ++ b = R) (hM : R.length = M) :
    Calls Tryz.prog 71 #[av, bv] w fun r w' => ∃ va vc, r = .returned (.slice va M vc) ∧ RowS (fun b => b = sb) w' (.slice va M vc) R ∧ Fr Nil w w' := by
  refine (join10_any ha hb hl9).mono ?_
  rintro r w' ⟨v, rfl, own, f⟩
  rw [hR] at own
  obtain ⟨va, vc, rfl⟩ := owns_shape own
  have h : RowS (fun b => b = sb) w' (.slice va R.length vc) R := RowC.mono (owns_row own) (by decide) (fun b _ q => by have q' : b = sb := q; omega)
  rw [hM] at h ⊢
  exact ⟨va, vc, rfl, h, f⟩
set_option maxRecDepth 100000 in
set_option maxHeartbeats 8000000 in
theorem sbinds_any {bs : List TB} {bc : Nat → List Value} (hOk : ∀ b ∈ bs, ScOk cons b.body) (h : SAt w sb cons s) (hb : RowC (fun b => b = sb) w bv bs.length 10 bc) (hbb : ∀ j (h : j < bs.length), BAt (fun b => b = sb) w (bc j) bs[j]) (hi : RowS (fun b => b = sb) w iv i) (hl9 : i.length + wnB bs ≤ 900000) :
    Calls Tryz.prog 38 #[.pointer (some ⟨sb, 0, none⟩), bv, iv] w fun r w' => r = .returned (.tuple #[]) ∧ SAt w' sb cons (scB cons bs i s) ∧ Fr (fun b => b = sb) w w' := by
  obtain ⟨ba, bcap, rfl⟩ := hb.shape
  obtain ⟨ia, ic, rfl⟩ := RowC.shape hi
  obtain ⟨n, hn⟩ : ∃ n, bs.length = n := ⟨_, rfl⟩
  obtain ⟨ni, hni⟩ : ∃ n, i.length = n := ⟨_, rfl⟩
  obtain ⟨R, hR⟩ : ∃ R, scB cons bs i s = R := ⟨_, rfl⟩
  have hn9 : n ≤ 9223372036854775807 := by
    obtain ⟨_, _, e, q1, q2, _⟩ := hb
    unfold maxLen at q2
    omega
  have hi' : RowS (fun b => b = sb) w (.slice ia ni ic) i := by rw [← hni]; exact hi
  rw [hn, hni, hR]
  have HV := Lib.hid (And.intro h (And.intro hb (And.intro hbb (And.intro hi' (And.intro hn (And.intro hni (And.intro hR hl9)))))))
  have HO := Lib.hid hOk
  clear h hb hbb hi hi' hn hni hR hl9 hOk
  go_enter Tryz.func38, Tryz.ntmps38
  go_wp2_with fail
  go_loopg [6] n (fun g kv wr => ∃ j : Nat, g = n - j ∧ j ≤ n ∧ kv = .int .i64 (j : Int) ∧ Hid (SAt wr sb cons (scB cons (bs.take j) i s) ∧ Fr (fun b => b = sb) w wr))
  case atStart => exact ⟨0, rfl, by omega, rfl, Lib.hid ⟨by simpa [scB] using HV.out.1, Fr.refl _ _⟩⟩
  case round =>
    obtain ⟨j, rfl, hjn, rfl, HS⟩ := hrel
    have j0 : (0 : Int) ≤ (j : Int) := by omega
    by_cases hlt : j < n
    · have hjL : j < bs.length := by rw [HV.out.2.2.2.2.1]; exact hlt
      have wk : IntKind.i64.wrap ((j : Int) + 1) = (j : Int) + 1 := by rw [IntKind.wrap_i64]; omega
      have j1 : (j : Int) < (n : Int) := by omega
      obtain ⟨b, off, rfl, hbs, hc⟩ := (HV.out.2.1.fr HS.out.2 (fun _ q => q)).at hjL
      have hBA := lawB.fr (HV.out.2.2.1 j hjL) HS.out.2 (fun _ q => q)
      obtain ⟨bn, pa, pn, pc, k', nm', fl', bi', b0, m0, d0, b1, m1, d1, b2, m2, d2, b3, m3, d3, ec⟩ := hBA.formB
      rw [ec] at hc hBA
      obtain ⟨hpr, hbo, hbn⟩ := hBA.parts
      obtain ⟨x, hx⟩ : ∃ x, bs[j].name = x := ⟨_, rfl⟩
      rw [hx] at hbn
      subst hbn
      have HK : Hid (∀ w', Fr (fun b => b = sb) wr w' → w'.cell? ⟨b, off + j * 10, none⟩ = some (.string ⟨x.toArray⟩) ∧ w'.cell? ⟨b, off + j * 10 + 1, none⟩ = some (.slice pa pn pc) ∧ w'.cell? ⟨b, off + j * 10 + 2, none⟩ = some (.int .i64 (k' : Int)) ∧ w'.cell? ⟨b, off + j * 10 + 3, none⟩ = some (.string nm') ∧ w'.cell? ⟨b, off + j * 10 + 4, none⟩ = some (.bool fl') ∧ w'.cell? ⟨b, off + j * 10 + 5, none⟩ = some (.int .u64 (bi' : Int)) ∧ w'.cell? ⟨b, off + j * 10 + 6, none⟩ = some (.slice b0 m0 d0) ∧ w'.cell? ⟨b, off + j * 10 + 7, none⟩ = some (.slice b1 m1 d1) ∧ w'.cell? ⟨b, off + j * 10 + 8, none⟩ = some (.slice b2 m2 d2) ∧ w'.cell? ⟨b, off + j * 10 + 9, none⟩ = some (.slice b3 m3 d3)) := Lib.hid (fun w' f => ⟨f.cell (hc 0 _ rfl) hbs, f.cell (hc 1 _ rfl) hbs, f.cell (hc 2 _ rfl) hbs, f.cell (hc 3 _ rfl) hbs, f.cell (hc 4 _ rfl) hbs, f.cell (hc 5 _ rfl) hbs, f.cell (hc 6 _ rfl) hbs, f.cell (hc 7 _ rfl) hbs, f.cell (hc 8 _ rfl) hbs, f.cell (hc 9 _ rfl) hbs⟩)
      obtain ⟨p0, p1, _⟩ := HK.out wr (Fr.refl _ _)
      have hb1 := wnB_take hjL
      have hb2 := wnB_take_le bs (j + 1)
      have hstep := scB_take cons hjL i s
      obtain ⟨G, hG⟩ : ∃ G, i ++ bs[j].params = G := ⟨_, rfl⟩
      obtain ⟨nG, hnG⟩ : ∃ n, G.length = n := ⟨_, rfl⟩
      have hGl : G.length = i.length + bs[j].params.length := by rw [← hG, List.length_append]
      rw [hG] at hstep
      have HQ := Lib.hid (And.intro hpr (And.intro hbo (And.intro hstep (show bs[j].params.length + wtE bs[j].body ≤ wnB bs by omega))))
      have HG := Lib.hid (And.intro hG (And.intro hnG hGl))
      clear hpr hbo hstep hb1 hb2 hc hBA ec hx hG hnG hGl
      go_wp2_with fail
      refine (ztwice_any HS.out.1 HQ.out.1 (by have := HQ.out.2.2.2; have := HV.out.2.2.2.2.2.2.2; omega)).mono ?_
      rintro e w1 ⟨rfl, h1, f1⟩
      have H1 := Lib.hid (And.intro h1 (And.intro f1 (HS.out.2.comp f1)))
      have hsz1 := f1.size
      have hsb1 := h1.lt
      clear h1 f1 p0 p1
      go_upto_region 4 with fail
      go_region_held3 (fun w' => w'.cell? ⟨b, off + j * 10, none⟩ = some (.string ⟨x.toArray⟩) ∧ w'.cell? ⟨b, off + j * 10 + 1, none⟩ = some (.slice pa pn pc) ∧ w'.cell? ⟨b, off + j * 10 + 2, none⟩ = some (.int .i64 (k' : Int)) ∧ w'.cell? ⟨b, off + j * 10 + 3, none⟩ = some (.string nm') ∧ w'.cell? ⟨b, off + j * 10 + 4, none⟩ = some (.bool fl') ∧ w'.cell? ⟨b, off + j * 10 + 5, none⟩ = some (.int .u64 (bi' : Int)) ∧ w'.cell? ⟨b, off + j * 10 + 6, none⟩ = some (.slice b0 m0 d0) ∧ w'.cell? ⟨b, off + j * 10 + 7, none⟩ = some (.slice b1 m1 d1) ∧ w'.cell? ⟨b, off + j * 10 + 8, none⟩ = some (.slice b2 m2 d2) ∧ w'.cell? ⟨b, off + j * 10 + 9, none⟩ = some (.slice b3 m3 d3)) (first | (with_reducible exact qb) | (with_reducible exact qa) | (with_reducible refine HK.out _ ?_; refine Fr.comp H1.out.2.1 ?_; (repeat (first | (with_reducible exact Fr.refl _ _) | (with_reducible assumption) | (with_reducible exact Fr.of_nil (by assumption)) | (with_reducible refine Fr.drew ?_) | (with_reducible refine Fr.drewN ?_ _) | (with_reducible refine Fr.alloc ?_ _) | (with_reducible refine Fr.set ?_ _ _ (by first | (intro _; exact rfl) | (intro _; exact .inl rfl) | (intro _; exact .inr rfl) | (intro q; exact absurd q (Nat.lt_irrefl _)) | (intro q; simp at q; omega))) | (with_reducible refine Fr.via ?_ (by assumption)) | (with_reducible refine Fr.comp ?_ (by assumption)))))) (first
        | (go_at_call 71; refine (join10_row (sb := sb) (RowS.fr HV.out.2.2.2.1 (S := fun b => b = sb) (H1.out.2.2.comp (by (repeat (first | (with_reducible exact Fr.refl _ _) | (with_reducible assumption) | (with_reducible exact Fr.of_nil (by assumption)) | (with_reducible refine Fr.drew ?_) | (with_reducible refine Fr.drewN ?_ _) | (with_reducible refine Fr.alloc ?_ _) | (with_reducible refine Fr.set ?_ _ _ (by first | (intro _; exact rfl) | (intro _; exact .inl rfl) | (intro _; exact .inr rfl) | (intro q; exact absurd q (Nat.lt_irrefl _)) | (intro q; simp at q; omega))) | (with_reducible refine Fr.via ?_ (by assumption)) | (with_reducible refine Fr.comp ?_ (by assumption)))))) (fun _ q => q)) (RowS.fr HQ.out.1 (S := fun b => b = sb) (H1.out.2.1.comp (by (repeat (first | (with_reducible exact Fr.refl _ _) | (with_reducible assumption) | (with_reducible exact Fr.of_nil (by assumption)) | (with_reducible refine Fr.drew ?_) | (with_reducible refine Fr.drewN ?_ _) | (with_reducible refine Fr.alloc ?_ _) | (with_reducible refine Fr.set ?_ _ _ (by first | (intro _; exact rfl) | (intro _; exact .inl rfl) | (intro _; exact .inr rfl) | (intro q; exact absurd q (Nat.lt_irrefl _)) | (intro q; simp at q; omega))) | (with_reducible refine Fr.via ?_ (by assumption)) | (with_reducible refine Fr.comp ?_ (by assumption)))))) (fun _ q => q)) (by have := HQ.out.2.2.2; have := HV.out.2.2.2.2.2.2.2; omega) (by simpa using hsb1) HG.out.1 HG.out.2.1).mono ?_; rintro e wa ⟨xa, xc, rfl, ra, fa⟩; have fa' : Fr Nil w1 wa := Fr.comp (S := Nil) (by (repeat (first | (with_reducible exact Fr.refl _ _) | (with_reducible assumption) | (with_reducible exact Fr.of_nil (by assumption)) | (with_reducible refine Fr.drew ?_) | (with_reducible refine Fr.drewN ?_ _) | (with_reducible refine Fr.alloc ?_ _) | (with_reducible refine Fr.set ?_ _ _ (by first | (intros; omega) | (simp; done) | (simp; omega))) | (with_reducible refine Fr.via ?_ (by assumption)) | (with_reducible refine Fr.comp ?_ (by assumption))))) fa; have qa := HK.out wa (H1.out.2.1.comp fa'.of_nil); have HA := Lib.hid (And.intro ra fa'); clear ra fa fa')
        | (go_at_call 70; refine (HO.out _ (List.getElem_mem hjL) _ sb _ _ _ _ (H1.out.1.fr HA.out.2) (HQ.out.2.1.fr (S := fun b => b = sb) (H1.out.2.1.comp HA.out.2.of_nil) (fun _ q => q)) HA.out.1 (by have := HG.out.2.2; have := HQ.out.2.2.2; have := HV.out.2.2.2.2.2.2.2; omega)).mono ?_; rintro e wb ⟨rfl, hb2, fb⟩; have fb' := HA.out.2.of_nil.comp fb; have qb := HK.out wb (H1.out.2.1.comp fb'); have HB2 := Lib.hid (And.intro hb2 fb'); clear hb2 fb fb'))
      go_wp2
      go_roundg (n - (j + 1))
      case rel => exact ⟨j + 1, rfl, by omega, by simp, Lib.hid ⟨by rw [HQ.out.2.2.1]; exact HB2.out.1, H1.out.2.2.comp HB2.out.2⟩⟩
      case measure => omega
    · have j1 : ¬ (j : Int) < (n : Int) := by omega
      obtain rfl : n = j := by omega
      have HF : Hid (SAt wr sb cons R ∧ Fr (fun b => b = sb) w wr) := Lib.hid (by
        have h := HS.out
        rw [List.take_of_length_le (by rw [HV.out.2.2.2.2.1]; exact Nat.le_refl _), HV.out.2.2.2.2.2.2.1] at h
        exact h)
      go_wp2
      go_end0
      exact ⟨rfl, HF.out.1, HF.out.2⟩
set_option maxRecDepth 100000 in
set_option maxHeartbeats 16000000 in
theorem salts_any {al : List TA} {ac : Nat → List Value} (hOk : ∀ b ∈ al, ScOk cons b.body) (h : SAt w sb cons s) (hb : RowC (fun b => b = sb) w bv al.length 13 ac) (hbb : ∀ j (h : j < al.length), AAt (fun b => b = sb) w (ac j) al[j]) (hi : RowS (fun b => b = sb) w iv i) (hl9 : i.length + wtA al ≤ 900000) :
    Calls Tryz.prog 121 #[.pointer (some ⟨sb, 0, none⟩), bv, iv] w fun r w' => r = .returned (.tuple #[]) ∧ SAt w' sb cons (scA cons al i s) ∧ Fr (fun b => b = sb) w w' := by
  obtain ⟨ba, bcap, rfl⟩ := hb.shape
  obtain ⟨ia, ic, rfl⟩ := RowC.shape hi
  obtain ⟨n, hn⟩ : ∃ n, al.length = n := ⟨_, rfl⟩
  obtain ⟨ni, hni⟩ : ∃ n, i.length = n := ⟨_, rfl⟩
  obtain ⟨R, hR⟩ : ∃ R, scA cons al i s = R := ⟨_, rfl⟩
  have hn9 : n ≤ 9223372036854775807 := by
    obtain ⟨_, _, e, q1, q2, _⟩ := hb
    unfold maxLen at q2
    omega
  have hi' : RowS (fun b => b = sb) w (.slice ia ni ic) i := by rw [← hni]; exact hi
  rw [hn, hni, hR]
  have HV := Lib.hid (And.intro h (And.intro hb (And.intro hbb (And.intro hi' (And.intro hn (And.intro hni (And.intro hR hl9)))))))
  have HO := Lib.hid hOk
  clear h hb hbb hi hi' hn hni hR hl9 hOk
  go_enter Tryz.func121, Tryz.ntmps121
  go_wp2_with fail
  go_loopg [6] n (fun g kv wr => ∃ j : Nat, g = n - j ∧ j ≤ n ∧ kv = .int .i64 (j : Int) ∧ Hid (SAt wr sb cons (scA cons (al.take j) i s) ∧ Fr (fun b => b = sb) w wr))
  case atStart => exact ⟨0, rfl, by omega, rfl, Lib.hid ⟨by simpa [scA] using HV.out.1, Fr.refl _ _⟩⟩
  case round =>
    obtain ⟨j, rfl, hjn, rfl, HS⟩ := hrel
    have j0 : (0 : Int) ≤ (j : Int) := by omega
    by_cases hlt : j < n
    · have hjL : j < al.length := by rw [HV.out.2.2.2.2.1]; exact hlt
      have wk : IntKind.i64.wrap ((j : Int) + 1) = (j : Int) + 1 := by rw [IntKind.wrap_i64]; omega
      have j1 : (j : Int) < (n : Int) := by omega
      obtain ⟨b, off, rfl, hbs, hc⟩ := (HV.out.2.1.fr HS.out.2 (fun _ q => q)).at hjL
      have hAA := lawA.fr (HV.out.2.2.1 j hjL) HS.out.2 (fun _ q => q)
      obtain ⟨tk, tn, tf, tb, pa, pn, pc, k', nm', fl', bi', b0, m0, d0, b1, m1, d1, b2, m2, d2, b3, m3, d3, ec⟩ := hAA.formA
      rw [ec] at hc hAA
      obtain ⟨hnr, hbo, hbn, htk⟩ := hAA.parts
      obtain ⟨x, hx⟩ : ∃ x, al[j].name = x := ⟨_, rfl⟩
      rw [hx] at hbn
      subst hbn
      have HK : Hid (∀ w', Fr (fun b => b = sb) wr w' → w'.cell? ⟨b, off + j * 13, none⟩ = some (.int .i64 (tk : Int)) ∧ w'.cell? ⟨b, off + j * 13 + 1, none⟩ = some (.string ⟨x.toArray⟩) ∧ w'.cell? ⟨b, off + j * 13 + 2, none⟩ = some (.bool tf) ∧ w'.cell? ⟨b, off + j * 13 + 3, none⟩ = some (.int .u64 (tb : Int)) ∧ w'.cell? ⟨b, off + j * 13 + 4, none⟩ = some (.slice pa pn pc) ∧ w'.cell? ⟨b, off + j * 13 + 5, none⟩ = some (.int .i64 (k' : Int)) ∧ w'.cell? ⟨b, off + j * 13 + 6, none⟩ = some (.string nm') ∧ w'.cell? ⟨b, off + j * 13 + 7, none⟩ = some (.bool fl') ∧ w'.cell? ⟨b, off + j * 13 + 8, none⟩ = some (.int .u64 (bi' : Int)) ∧ w'.cell? ⟨b, off + j * 13 + 9, none⟩ = some (.slice b0 m0 d0) ∧ w'.cell? ⟨b, off + j * 13 + 10, none⟩ = some (.slice b1 m1 d1) ∧ w'.cell? ⟨b, off + j * 13 + 11, none⟩ = some (.slice b2 m2 d2) ∧ w'.cell? ⟨b, off + j * 13 + 12, none⟩ = some (.slice b3 m3 d3)) := Lib.hid (fun w' f => ⟨f.cell (hc 0 _ rfl) hbs, f.cell (hc 1 _ rfl) hbs, f.cell (hc 2 _ rfl) hbs, f.cell (hc 3 _ rfl) hbs, f.cell (hc 4 _ rfl) hbs, f.cell (hc 5 _ rfl) hbs, f.cell (hc 6 _ rfl) hbs, f.cell (hc 7 _ rfl) hbs, f.cell (hc 8 _ rfl) hbs, f.cell (hc 9 _ rfl) hbs, f.cell (hc 10 _ rfl) hbs, f.cell (hc 11 _ rfl) hbs, f.cell (hc 12 _ rfl) hbs⟩)
      obtain ⟨p0, p1, p2, p3, p4, p5, p6, p7, p8, p9, p10, p11, p12⟩ := HK.out wr (Fr.refl _ _)
      have hb1 := wtA_take hjL
      have hb2 := wtA_take_le al (j + 1)
      have hstep := scA_take cons hjL i s
      unfold scA1 at hstep
      rw [← htk, hx] at hstep
      have hbd : 1 + al[j].names.length + wtE al[j].body ≤ wtA al := by omega
      have hlb : b < wr.heap.size := World.block_lt_of_cell? _ _ p0
      by_cases hk0 : tk = 0
      · rw [if_pos hk0] at hstep
        have ek0 : ((tk : Int) == 0) = true := by simp [hk0]
        obtain ⟨G, hG⟩ : ∃ G, i ++ al[j].names = G := ⟨_, rfl⟩
        obtain ⟨nG, hnG⟩ : ∃ n, G.length = n := ⟨_, rfl⟩
        have hGl : G.length = i.length + al[j].names.length := by rw [← hG, List.length_append]
        rw [hG] at hstep
        have HQ := Lib.hid (And.intro hnr (And.intro hbo (And.intro hstep hbd)))
        have HG := Lib.hid (And.intro hG (And.intro hnG hGl))
        clear hnr hbo hstep hb1 hb2 hc hAA ec hx hbd htk hk0 hG hnG hGl
        go_wp2_with fail
        refine (con_any HS.out.1 x).mono ?_
        rintro e w0 ⟨rfl, h0, f0⟩
        have H0 := Lib.hid (And.intro h0 f0)
        clear h0 f0 p0 p1 p2 p3 p4 p5 p6 p7 p8 p9 p10 p11 p12
        obtain ⟨p0, p1, p2, p3, p4, p5, p6, p7, p8, p9, p10, p11, p12⟩ := HK.out w0 H0.out.2
        go_wp2_with fail
        refine (ztwice_any H0.out.1 (RowS.fr HQ.out.1 H0.out.2 (fun _ q => q)) (by have := HQ.out.2.2.2; have := HV.out.2.2.2.2.2.2.2; omega)).mono ?_
        rintro e w1 ⟨rfl, h1, f1⟩
        have H1 := Lib.hid (And.intro h1 (And.intro (H0.out.2.comp f1) (HS.out.2.comp (H0.out.2.comp f1))))
        have hsb1 := h1.lt
        clear h1 f1 p0 p1 p2 p3 p4 p5 p6 p7 p8 p9 p10 p11 p12
        go_upto_region 8 with fail
        go_region_held3 (fun w' => w'.cell? ⟨b, off + j * 13, none⟩ = some (.int .i64 (tk : Int)) ∧ w'.cell? ⟨b, off + j * 13 + 1, none⟩ = some (.string ⟨x.toArray⟩) ∧ w'.cell? ⟨b, off + j * 13 + 2, none⟩ = some (.bool tf) ∧ w'.cell? ⟨b, off + j * 13 + 3, none⟩ = some (.int .u64 (tb : Int)) ∧ w'.cell? ⟨b, off + j * 13 + 4, none⟩ = some (.slice pa pn pc) ∧ w'.cell? ⟨b, off + j * 13 + 5, none⟩ = some (.int .i64 (k' : Int)) ∧ w'.cell? ⟨b, off + j * 13 + 6, none⟩ = some (.string nm') ∧ w'.cell? ⟨b, off + j * 13 + 7, none⟩ = some (.bool fl') ∧ w'.cell? ⟨b, off + j * 13 + 8, none⟩ = some (.int .u64 (bi' : Int)) ∧ w'.cell? ⟨b, off + j * 13 + 9, none⟩ = some (.slice b0 m0 d0) ∧ w'.cell? ⟨b, off + j * 13 + 10, none⟩ = some (.slice b1 m1 d1) ∧ w'.cell? ⟨b, off + j * 13 + 11, none⟩ = some (.slice b2 m2 d2) ∧ w'.cell? ⟨b, off + j * 13 + 12, none⟩ = some (.slice b3 m3 d3)) (first | (with_reducible exact qb) | (with_reducible exact qa) | (with_reducible refine HK.out _ ?_; refine Fr.comp H1.out.2.1 ?_; (repeat (first | (with_reducible exact Fr.refl _ _) | (with_reducible assumption) | (with_reducible exact Fr.of_nil (by assumption)) | (with_reducible refine Fr.drew ?_) | (with_reducible refine Fr.drewN ?_ _) | (with_reducible refine Fr.alloc ?_ _) | (with_reducible refine Fr.set ?_ _ _ (by first | (intro _; exact rfl) | (intro _; exact .inl rfl) | (intro _; exact .inr rfl) | (intro q; exact absurd q (Nat.lt_irrefl _)) | (intro q; simp at q; omega))) | (with_reducible refine Fr.via ?_ (by assumption)) | (with_reducible refine Fr.comp ?_ (by assumption)))))) (first
          | (go_at_call 71; refine (join10_row (sb := sb) (RowS.fr HV.out.2.2.2.1 (S := fun b => b = sb) (H1.out.2.2.comp (by (repeat (first | (with_reducible exact Fr.refl _ _) | (with_reducible assumption) | (with_reducible exact Fr.of_nil (by assumption)) | (with_reducible refine Fr.drew ?_) | (with_reducible refine Fr.drewN ?_ _) | (with_reducible refine Fr.alloc ?_ _) | (with_reducible refine Fr.set ?_ _ _ (by first | (intro _; exact rfl) | (intro _; exact .inl rfl) | (intro _; exact .inr rfl) | (intro q; exact absurd q (Nat.lt_irrefl _)) | (intro q; simp at q; omega))) | (with_reducible refine Fr.via ?_ (by assumption)) | (with_reducible refine Fr.comp ?_ (by assumption)))))) (fun _ q => q)) (RowS.fr HQ.out.1 (S := fun b => b = sb) (H1.out.2.1.comp (by (repeat (first | (with_reducible exact Fr.refl _ _) | (with_reducible assumption) | (with_reducible exact Fr.of_nil (by assumption)) | (with_reducible refine Fr.drew ?_) | (with_reducible refine Fr.drewN ?_ _) | (with_reducible refine Fr.alloc ?_ _) | (with_reducible refine Fr.set ?_ _ _ (by first | (intro _; exact rfl) | (intro _; exact .inl rfl) | (intro _; exact .inr rfl) | (intro q; exact absurd q (Nat.lt_irrefl _)) | (intro q; simp at q; omega))) | (with_reducible refine Fr.via ?_ (by assumption)) | (with_reducible refine Fr.comp ?_ (by assumption)))))) (fun _ q => q)) (by have := HQ.out.2.2.2; have := HV.out.2.2.2.2.2.2.2; omega) (by simpa using hsb1) HG.out.1 HG.out.2.1).mono ?_; rintro e wa ⟨xa, xc, rfl, ra, fa⟩; have fa' : Fr Nil w1 wa := Fr.comp (S := Nil) (by (repeat (first | (with_reducible exact Fr.refl _ _) | (with_reducible assumption) | (with_reducible exact Fr.of_nil (by assumption)) | (with_reducible refine Fr.drew ?_) | (with_reducible refine Fr.drewN ?_ _) | (with_reducible refine Fr.alloc ?_ _) | (with_reducible refine Fr.set ?_ _ _ (by first | (intros; omega) | (simp; done) | (simp; omega))) | (with_reducible refine Fr.via ?_ (by assumption)) | (with_reducible refine Fr.comp ?_ (by assumption))))) fa; have qa := HK.out wa (H1.out.2.1.comp fa'.of_nil); have HA := Lib.hid (And.intro ra fa'); clear ra fa fa')
          | (go_at_call 70; refine (HO.out _ (List.getElem_mem hjL) _ sb _ _ _ _ (H1.out.1.fr HA.out.2) (HQ.out.2.1.fr (S := fun b => b = sb) (H1.out.2.1.comp HA.out.2.of_nil) (fun _ q => q)) HA.out.1 (by have := HG.out.2.2; have := HQ.out.2.2.2; have := HV.out.2.2.2.2.2.2.2; omega)).mono ?_; rintro e wb ⟨rfl, hb2, fb⟩; have fb' := HA.out.2.of_nil.comp fb; have qb := HK.out wb (H1.out.2.1.comp fb'); have HB2 := Lib.hid (And.intro hb2 fb'); clear hb2 fb fb'))
        go_wp2
        go_roundg (n - (j + 1))
        case rel => exact ⟨j + 1, rfl, by omega, by simp, Lib.hid ⟨by rw [HQ.out.2.2.1]; exact HB2.out.1, H1.out.2.2.comp HB2.out.2⟩⟩
        case measure => omega
      · rw [if_neg hk0] at hstep
        have ek0 : ((tk : Int) == 0) = false := beq_false_of_ne (by omega)
        by_cases hk2 : tk = 2
        · rw [if_pos hk2] at hstep
          have ek2 : ((tk : Int) == 2) = true := by simp [hk2]
          have hsb1 := HS.out.1.lt
          obtain ⟨G, hG⟩ : ∃ G, i ++ [x] = G := ⟨_, rfl⟩
          obtain ⟨nG, hnG⟩ : ∃ n, G.length = n := ⟨_, rfl⟩
          have hGl : G.length = i.length + 1 := by rw [← hG, List.length_append]; rfl
          rw [hG] at hstep
          have HQ := Lib.hid (And.intro hbo (And.intro hstep hbd))
          have HG := Lib.hid (And.intro hG (And.intro hnG hGl))
          clear hnr hbo hstep hb1 hb2 hc hAA ec hx hbd htk hk0 hk2 hG hnG hGl
          go_upto_region 10 with fail
          go_region_held3 (fun w' => w'.cell? ⟨b, off + j * 13, none⟩ = some (.int .i64 (tk : Int)) ∧ w'.cell? ⟨b, off + j * 13 + 1, none⟩ = some (.string ⟨x.toArray⟩) ∧ w'.cell? ⟨b, off + j * 13 + 2, none⟩ = some (.bool tf) ∧ w'.cell? ⟨b, off + j * 13 + 3, none⟩ = some (.int .u64 (tb : Int)) ∧ w'.cell? ⟨b, off + j * 13 + 4, none⟩ = some (.slice pa pn pc) ∧ w'.cell? ⟨b, off + j * 13 + 5, none⟩ = some (.int .i64 (k' : Int)) ∧ w'.cell? ⟨b, off + j * 13 + 6, none⟩ = some (.string nm') ∧ w'.cell? ⟨b, off + j * 13 + 7, none⟩ = some (.bool fl') ∧ w'.cell? ⟨b, off + j * 13 + 8, none⟩ = some (.int .u64 (bi' : Int)) ∧ w'.cell? ⟨b, off + j * 13 + 9, none⟩ = some (.slice b0 m0 d0) ∧ w'.cell? ⟨b, off + j * 13 + 10, none⟩ = some (.slice b1 m1 d1) ∧ w'.cell? ⟨b, off + j * 13 + 11, none⟩ = some (.slice b2 m2 d2) ∧ w'.cell? ⟨b, off + j * 13 + 12, none⟩ = some (.slice b3 m3 d3)) (first | (with_reducible exact qb) | (with_reducible exact qa) | (with_reducible refine HK.out _ ?_; (repeat (first | (with_reducible exact Fr.refl _ _) | (with_reducible assumption) | (with_reducible exact Fr.of_nil (by assumption)) | (with_reducible refine Fr.drew ?_) | (with_reducible refine Fr.drewN ?_ _) | (with_reducible refine Fr.alloc ?_ _) | (with_reducible refine Fr.set ?_ _ _ (by first | (intro _; exact rfl) | (intro _; exact .inl rfl) | (intro _; exact .inr rfl) | (intro q; exact absurd q (Nat.lt_irrefl _)) | (intro q; simp at q; omega))) | (with_reducible refine Fr.via ?_ (by assumption)) | (with_reducible refine Fr.comp ?_ (by assumption)))))) (first
            | (go_at_call 71; refine (join10_row (sb := sb) (RowS.fr HV.out.2.2.2.1 (S := fun b => b = sb) (HS.out.2.comp (by (repeat (first | (with_reducible exact Fr.refl _ _) | (with_reducible assumption) | (with_reducible exact Fr.of_nil (by assumption)) | (with_reducible refine Fr.drew ?_) | (with_reducible refine Fr.drewN ?_ _) | (with_reducible refine Fr.alloc ?_ _) | (with_reducible refine Fr.set ?_ _ _ (by first | (intro _; exact rfl) | (intro _; exact .inl rfl) | (intro _; exact .inr rfl) | (intro q; exact absurd q (Nat.lt_irrefl _)) | (intro q; simp at q; omega))) | (with_reducible refine Fr.via ?_ (by assumption)) | (with_reducible refine Fr.comp ?_ (by assumption)))))) (fun _ q => q)) (RowS.single (x := x) (X := fun b => False) (Blk.new wr.drew #[.string ⟨x.toArray⟩] 9) (fun q => q)) (by have := HQ.out.2.2; have := HV.out.2.2.2.2.2.2.2; simp only [List.length_singleton]; omega) (by simp; omega) HG.out.1 HG.out.2.1).mono ?_; rintro e wa ⟨xa, xc, rfl, ra, fa⟩; have fa' : Fr Nil wr wa := Fr.comp (S := Nil) (by (repeat (first | (with_reducible exact Fr.refl _ _) | (with_reducible assumption) | (with_reducible exact Fr.of_nil (by assumption)) | (with_reducible refine Fr.drew ?_) | (with_reducible refine Fr.drewN ?_ _) | (with_reducible refine Fr.alloc ?_ _) | (with_reducible refine Fr.set ?_ _ _ (by first | (intros; omega) | (simp; done) | (simp; omega))) | (with_reducible refine Fr.via ?_ (by assumption)) | (with_reducible refine Fr.comp ?_ (by assumption))))) fa; have qa := HK.out wa fa'.of_nil; have HA := Lib.hid (And.intro ra fa'); clear ra fa fa')
            | (go_at_call 70; refine (HO.out _ (List.getElem_mem hjL) _ sb _ _ _ _ (HS.out.1.fr HA.out.2) (HQ.out.1.fr (S := Nil) HA.out.2 (fun _ q => q.elim)) HA.out.1 (by have := HG.out.2.2; have := HQ.out.2.2; have := HV.out.2.2.2.2.2.2.2; omega)).mono ?_; rintro e wb ⟨rfl, hb2, fb⟩; have fb' := HA.out.2.of_nil.comp fb; have qb := HK.out wb fb'; have HB2 := Lib.hid (And.intro hb2 fb'); clear hb2 fb fb'))
          go_wp2
          go_roundg (n - (j + 1))
          case rel => exact ⟨j + 1, rfl, by omega, by simp, Lib.hid ⟨by rw [HQ.out.2.1]; exact HB2.out.1, HS.out.2.comp HB2.out.2⟩⟩
          case measure => omega
        · rw [if_neg hk2] at hstep
          have ek2 : ((tk : Int) == 2) = false := beq_false_of_ne (by omega)
          have HQ := Lib.hid (And.intro hbo (And.intro hstep hbd))
          clear hnr hbo hstep hb1 hb2 hc hAA ec hx hbd htk hk0 hk2
          go_wp2_with fail
          refine (HO.out _ (List.getElem_mem hjL) _ sb _ _ _ _ HS.out.1 HQ.out.1 (RowS.fr HV.out.2.2.2.1 HS.out.2 (fun _ q => q)) (by have := HQ.out.2.2; have := HV.out.2.2.2.2.2.2.2; omega)).mono ?_
          rintro e w1 ⟨rfl, h1, f1⟩
          have H1 := Lib.hid (And.intro h1 (HS.out.2.comp f1))
          clear h1 f1 p0 p1 p2 p3 p4 p5 p6 p7 p8 p9 p10 p11 p12
          go_wp2
          go_roundg (n - (j + 1))
          case rel => exact ⟨j + 1, rfl, by omega, by simp, Lib.hid ⟨by rw [HQ.out.2.1]; exact H1.out.1, H1.out.2⟩⟩
          case measure => omega
    · have j1 : ¬ (j : Int) < (n : Int) := by omega
      obtain rfl : n = j := by omega
      have HF : Hid (SAt wr sb cons R ∧ Fr (fun b => b = sb) w wr) := Lib.hid (by
        have h := HS.out
        rw [List.take_of_length_le (by rw [HV.out.2.2.2.2.1]; exact Nat.le_refl _), HV.out.2.2.2.2.2.2.1] at h
        exact h)
      go_wp2
      go_end0
      exact ⟨rfl, HF.out.1, HF.out.2⟩
end


section
variable {cons : List (List UInt8)}
set_option maxRecDepth 100000 in
set_option maxHeartbeats 8000000 in
theorem sc_var {nm : List UInt8} {fl : Bool} {bi : Nat} {ps : List (List UInt8)} {ks : List TE} {bs : List TB} {al : List TA}  (hK : ∀ e ∈ ks, ScOk cons e) (hB : ∀ b ∈ bs, ScOk cons b.body) (hA : ∀ b ∈ al, ScOk cons b.body) : ScOk cons (.mk 1 nm fl bi ps ks bs al) := by
  intro w sb s i iv cs h hE hi hl9
  cases hE with
  | mk kc bc ac be ae bp an hp hk hk2 hb hb1 hb2 hb3 ha ha1 ha2 ha3 =>
  have hbb : ∀ j (h : j < bs.length), BAt (fun b => b = sb) w (bc j) bs[j] := fun j hj => ⟨bp j, be j, hb1 j hj, hb2 j hj, hb3 j hj⟩
  have haa : ∀ j (h : j < al.length), AAt (fun b => b = sb) w (ac j) al[j] := fun j hj => ⟨an j, ae j, ha1 j hj, ha2 j hj, ha3 j hj⟩
  obtain ⟨a0, c0, rfl⟩ := RowC.shape hp
  obtain ⟨a1, c1, rfl⟩ := hk.shape
  obtain ⟨a2, c2, rfl⟩ := hb.shape
  obtain ⟨a3, c3, rfl⟩ := ha.shape
  have hnk9 : ks.length ≤ 9223372036854775807 := by
    obtain ⟨_, _, e, q1, q2, _⟩ := hk
    unfold maxLen at q2
    omega
  have HR := Lib.hid (And.intro hp (And.intro hk (And.intro hk2 (And.intro hb (And.intro hbb (And.intro ha haa))))))
  obtain ⟨R, hR⟩ : ∃ R, scE cons (.mk 1 nm fl bi ps ks bs al) i s = R := ⟨_, rfl⟩
  rw [hR]
  have HRR := Lib.hid hR
  obtain ⟨ia, ic, rfl⟩ := RowC.shape hi
  obtain ⟨ni, hni⟩ : ∃ n, i.length = n := ⟨_, rfl⟩
  have hi' : RowS (fun b => b = sb) w (.slice ia ni ic) i := by rw [← hni]; exact hi
  have hlt := h.lt
  have hwt : i.length + (wtK ks + (wnB bs + bs.length) + wtA al + ps.length) ≤ 900000 := by
    have := wnB_eq bs
    unfold wtE at hl9
    omega
  have HH := Lib.hid (And.intro h (And.intro hi' (And.intro hni hwt)))
  have HO := Lib.hid (And.intro hK (And.intro hB hA))
  obtain ⟨nk, hnk⟩ : ∃ nk, ks.length = nk := ⟨_, rfl⟩
  obtain ⟨nb, hnb⟩ : ∃ nb, bs.length = nb := ⟨_, rfl⟩
  obtain ⟨na, hna⟩ : ∃ na, al.length = na := ⟨_, rfl⟩
  obtain ⟨np, hnp⟩ : ∃ np, ps.length = np := ⟨_, rfl⟩
  rw [hnk, hnb, hna, hnp, hni]
  rw [hnk] at hnk9
  have HN := Lib.hid (And.intro hnk (And.intro hnb (And.intro hna hnp)))
  clear hp hk hk2 hb hb1 hb2 hb3 ha ha1 ha2 ha3 hbb haa hR h hi hi' hni hl9 hwt hK hB hA hnk hnb hna hnp
  obtain ⟨T, hT⟩ : ∃ T, w.heap.size = T := ⟨_, rfl⟩
  have HTN := Lib.hid (show ¬ (fun b => b = sb) T ∧ w.heap.size = T from ⟨fun q => by have q' : T = sb := q; omega, hT⟩)
  have hin : True := trivial
  by_cases hn : nm ∈ i
  · have HE := Lib.hid (show scE cons (.mk 1 nm fl bi ps ks bs al) i s = scA cons al i (scK cons ks i s) ∧ i.length + (wtK ks + wtA al) ≤ 900000 from ⟨by unfold scE; rw [if_pos rfl, if_pos hn], by have := HH.out.2.2.2; omega⟩)
    have hd := decide_eq_true hn
    clear hin
    go_enter Tryz.func70, Tryz.ntmps70
    go_wp2_with fail
    obtain ⟨W1, hW1⟩ : ∃ W1, w.alloc (.cells #[.int .i64 1, .string ⟨nm.toArray⟩, .bool fl, .int .u64 (bi : Int), .slice a0 np c0, .slice a1 nk c1, .slice a2 nb c2, .slice a3 na c3] 50) = W1 := ⟨_, rfl⟩
    rw [hW1]
    have H1 := Lib.hid (And.intro (show Fr Nil w W1 by rw [← hW1]; (repeat (first | (with_reducible exact Fr.refl _ _) | (with_reducible assumption) | (with_reducible exact Fr.of_nil (by assumption)) | (with_reducible refine Fr.drew ?_) | (with_reducible refine Fr.drewN ?_ _) | (with_reducible refine Fr.alloc ?_ _) | (with_reducible refine Fr.set ?_ _ _ (by first | (intros; omega) | (simp; done) | (simp; omega))) | (with_reducible refine Fr.via ?_ (by assumption)) | (with_reducible refine Fr.comp ?_ (by assumption))))) (show Blk W1 T #[.int .i64 1, .string ⟨nm.toArray⟩, .bool fl, .int .u64 (bi : Int), .slice a0 np c0, .slice a1 nk c1, .slice a2 nb c2, .slice a3 na c3] 50 by rw [← hW1, ← hT]; exact Blk.new _ _ _))
    clear hW1
    have hi1 := in_any nm (RowS.fr HH.out.2.1 H1.out.1 (fun _ q => q.elim))
    rw [hd] at hi1
    refine hi1.mono ?_
    rintro e wx ⟨rfl, fx⟩
    have HT := Lib.hid (And.intro (HH.out.1.fr (H1.out.1.comp fx)) (And.intro (RowS.fr HH.out.2.1 (H1.out.1.comp fx) (fun _ q => q.elim)) (And.intro (fx.blk H1.out.2 (fun q => q)) (Fr.of_nil (S := fun b => b = sb) (H1.out.1.comp fx)))))
    clear fx hi1 hd hn
    have htc : ∀ w', Fr (fun b => b = sb) wx w' → w'.cell? ⟨T, 5, none⟩ = some (.slice a1 nk c1) ∧ w'.cell? ⟨T, 7, none⟩ = some (.slice a3 na c3) ∧ T < w'.heap.size := fun w' f => by
      have b := f.blk HT.out.2.2.1 HTN.out.1
      exact ⟨by have := b.cell 5; simpa using this, by have := b.cell 7; simpa using this, b.lt⟩
    have HTC := Lib.hid htc
    obtain ⟨t5, t7, tl⟩ := HTC.out wx (Fr.refl _ _)
    clear htc
    go_wp2_with fail
    go_loopg [7] nk (fun g jv wr => ∃ j : Nat, g = nk - j ∧ j ≤ nk ∧ jv = .int .i64 (j : Int) ∧ Hid (SAt wr sb cons (scK cons (ks.take j) i s) ∧ Fr (fun b => b = sb) wx wr))
    case atStart => exact ⟨0, rfl, by omega, rfl, Lib.hid ⟨by simpa [scK] using HT.out.1, Fr.refl _ _⟩⟩
    case round =>
      clear t5 t7 tl
      obtain ⟨j, rfl, hjn, rfl, HS⟩ := hrel
      have j0 : (0 : Int) ≤ (j : Int) := by omega
      obtain ⟨t5, t7, tl⟩ := HTC.out wr HS.out.2
      by_cases hlt : j < nk
      · have hjL : j < ks.length := by rw [HN.out.1]; exact hlt
        have wk : IntKind.i64.wrap ((j : Int) + 1) = (j : Int) + 1 := by rw [IntKind.wrap_i64]; omega
        have j1 : (j : Int) < (nk : Int) := by omega
        obtain ⟨b, off, rfl, hbs, hc⟩ := (HR.out.2.1.fr (HT.out.2.2.2.comp HS.out.2) (fun _ q => q)).at hjL
        have hEA := (HR.out.2.2.1 j hjL).fr (HT.out.2.2.2.comp HS.out.2) (fun _ q => q)
        obtain ⟨k', nm', fl', bi', b0, m0, d0, b1, m1, d1, b2, m2, d2, b3, m3, d3, ec⟩ := hEA.formE
        rw [ec] at hc hEA
        have p0 := hc 0 _ rfl
        have p1 := hc 1 _ rfl
        have p2 := hc 2 _ rfl
        have p3 := hc 3 _ rfl
        have p4 := hc 4 _ rfl
        have p5 := hc 5 _ rfl
        have p6 := hc 6 _ rfl
        have p7 := hc 7 _ rfl
        simp only [Nat.add_zero] at p0
        have hw1 := wtK_take hjL
        have hw2 := wtK_take_le ks (j + 1)
        have HQ := Lib.hid (And.intro hEA (And.intro (scK_take cons hjL i s) (show wtE ks[j] ≤ wtK ks by omega)))
        clear hEA hc ec hw1 hw2
        go_wp2_with fail
        refine (HO.out.1 _ (List.getElem_mem hjL) _ sb _ _ _ _ HS.out.1 HQ.out.1 (RowS.fr HT.out.2.1 HS.out.2 (fun _ q => q)) (by have := HE.out.2; have := HQ.out.2.2; omega)).mono ?_
        rintro e w7 ⟨rfl, h7, f7⟩
        have H7 := Lib.hid (And.intro h7 (HS.out.2.comp f7))
        clear h7 f7 p0 p1 p2 p3 p4 p5 p6 p7 t5 t7 tl
        go_wp2
        go_roundg (nk - (j + 1))
        case rel => exact ⟨j + 1, rfl, by omega, by simp, Lib.hid ⟨by rw [HQ.out.2.1]; exact H7.out.1, H7.out.2⟩⟩
        case measure => omega
      · have j1 : ¬ (j : Int) < (nk : Int) := by omega
        obtain rfl : nk = j := by omega
        have HF : Hid (SAt wr sb cons (scK cons ks i s) ∧ Fr (fun b => b = sb) wx wr) := Lib.hid (by
          have h := HS.out
          rw [List.take_of_length_le (by rw [HN.out.1]; exact Nat.le_refl _)] at h
          exact h)
        clear HS
        go_wp2_with fail
        have hal := salts_any (al := al) (ac := ac) HO.out.2.2 HF.out.1 (HR.out.2.2.2.2.2.1.fr (HT.out.2.2.2.comp HF.out.2) (fun _ q => q)) (fun j hj => lawA.fr (HR.out.2.2.2.2.2.2 j hj) (HT.out.2.2.2.comp HF.out.2) (fun _ q => q)) (RowS.fr HT.out.2.1 HF.out.2 (fun _ q => q)) (by have := HE.out.2; omega)
        rw [HN.out.2.2.1] at hal
        refine hal.mono ?_
        rintro e w8 ⟨rfl, h8, f8⟩
        have H8 := Lib.hid (And.intro h8 (HT.out.2.2.2.comp (HF.out.2.comp f8)))
        clear h8 f8 hal t5 t7 tl
        go_wp2
        go_end0
        exact ⟨rfl, by rw [← HRR.out, HE.out.1]; exact H8.out.1, H8.out.2⟩
  · obtain ⟨s1, hs1⟩ : ∃ s1, fltS s 4 nm = s1 := ⟨_, rfl⟩
    have HE := Lib.hid (show scE cons (.mk 1 nm fl bi ps ks bs al) i s = scA cons al i (scK cons ks i s1) ∧ i.length + (wtK ks + wtA al) ≤ 900000 from ⟨by unfold scE; rw [if_pos rfl, if_neg hn, hs1], by have := HH.out.2.2.2; omega⟩)
    have hd := decide_eq_false hn
    have HS1 := Lib.hid hs1
    clear hin hs1
    go_enter Tryz.func70, Tryz.ntmps70
    go_wp2_with fail
    obtain ⟨W1, hW1⟩ : ∃ W1, w.alloc (.cells #[.int .i64 1, .string ⟨nm.toArray⟩, .bool fl, .int .u64 (bi : Int), .slice a0 np c0, .slice a1 nk c1, .slice a2 nb c2, .slice a3 na c3] 50) = W1 := ⟨_, rfl⟩
    rw [hW1]
    have H1 := Lib.hid (And.intro (show Fr Nil w W1 by rw [← hW1]; (repeat (first | (with_reducible exact Fr.refl _ _) | (with_reducible assumption) | (with_reducible exact Fr.of_nil (by assumption)) | (with_reducible refine Fr.drew ?_) | (with_reducible refine Fr.drewN ?_ _) | (with_reducible refine Fr.alloc ?_ _) | (with_reducible refine Fr.set ?_ _ _ (by first | (intros; omega) | (simp; done) | (simp; omega))) | (with_reducible refine Fr.via ?_ (by assumption)) | (with_reducible refine Fr.comp ?_ (by assumption))))) (show Blk W1 T #[.int .i64 1, .string ⟨nm.toArray⟩, .bool fl, .int .u64 (bi : Int), .slice a0 np c0, .slice a1 nk c1, .slice a2 nb c2, .slice a3 na c3] 50 by rw [← hW1, ← hT]; exact Blk.new _ _ _))
    clear hW1
    have hi1 := in_any nm (RowS.fr HH.out.2.1 H1.out.1 (fun _ q => q.elim))
    rw [hd] at hi1
    refine hi1.mono ?_
    rintro e w2 ⟨rfl, f2⟩
    have b2 := f2.blk H1.out.2 (fun q => q)
    have t1 := b2.cell 1
    simp at t1
    have tl2 := b2.lt
    have H2 := Lib.hid (And.intro f2 b2)
    clear f2 b2 hi1 hd hn
    go_wp2_with fail
    refine (fault_any (HH.out.1.fr (H1.out.1.comp H2.out.1)) 4 nm).mono ?_
    rintro e wx ⟨rfl, hx, fx⟩
    rw [HS1.out] at hx
    have hfx : Fr (fun b => b = sb) w wx := (Fr.of_nil (H1.out.1.comp H2.out.1)).comp fx
    have HT := Lib.hid (And.intro hx (And.intro (RowS.fr HH.out.2.1 hfx (fun _ q => q)) (And.intro (fx.blk H2.out.2 HTN.out.1) hfx)))
    clear hx fx hfx t1 tl2
    have htc : ∀ w', Fr (fun b => b = sb) wx w' → w'.cell? ⟨T, 5, none⟩ = some (.slice a1 nk c1) ∧ w'.cell? ⟨T, 7, none⟩ = some (.slice a3 na c3) ∧ T < w'.heap.size := fun w' f => by
      have b := f.blk HT.out.2.2.1 HTN.out.1
      exact ⟨by have := b.cell 5; simpa using this, by have := b.cell 7; simpa using this, b.lt⟩
    have HTC := Lib.hid htc
    obtain ⟨t5, t7, tl⟩ := HTC.out wx (Fr.refl _ _)
    clear htc
    go_wp2_with fail
    go_loopg [7] nk (fun g jv wr => ∃ j : Nat, g = nk - j ∧ j ≤ nk ∧ jv = .int .i64 (j : Int) ∧ Hid (SAt wr sb cons (scK cons (ks.take j) i s1) ∧ Fr (fun b => b = sb) wx wr))
    case atStart => exact ⟨0, rfl, by omega, rfl, Lib.hid ⟨by simpa [scK] using HT.out.1, Fr.refl _ _⟩⟩
    case round =>
      clear t5 t7 tl
      obtain ⟨j, rfl, hjn, rfl, HS⟩ := hrel
      have j0 : (0 : Int) ≤ (j : Int) := by omega
      obtain ⟨t5, t7, tl⟩ := HTC.out wr HS.out.2
      by_cases hlt : j < nk
      · have hjL : j < ks.length := by rw [HN.out.1]; exact hlt
        have wk : IntKind.i64.wrap ((j : Int) + 1) = (j : Int) + 1 := by rw [IntKind.wrap_i64]; omega
        have j1 : (j : Int) < (nk : Int) := by omega
        obtain ⟨b, off, rfl, hbs, hc⟩ := (HR.out.2.1.fr (HT.out.2.2.2.comp HS.out.2) (fun _ q => q)).at hjL
        have hEA := (HR.out.2.2.1 j hjL).fr (HT.out.2.2.2.comp HS.out.2) (fun _ q => q)
        obtain ⟨k', nm', fl', bi', b0, m0, d0, b1, m1, d1, b2, m2, d2, b3, m3, d3, ec⟩ := hEA.formE
        rw [ec] at hc hEA
        have p0 := hc 0 _ rfl
        have p1 := hc 1 _ rfl
        have p2 := hc 2 _ rfl
        have p3 := hc 3 _ rfl
        have p4 := hc 4 _ rfl
        have p5 := hc 5 _ rfl
        have p6 := hc 6 _ rfl
        have p7 := hc 7 _ rfl
        simp only [Nat.add_zero] at p0
        have hw1 := wtK_take hjL
        have hw2 := wtK_take_le ks (j + 1)
        have HQ := Lib.hid (And.intro hEA (And.intro (scK_take cons hjL i s1) (show wtE ks[j] ≤ wtK ks by omega)))
        clear hEA hc ec hw1 hw2
        go_wp2_with fail
        refine (HO.out.1 _ (List.getElem_mem hjL) _ sb _ _ _ _ HS.out.1 HQ.out.1 (RowS.fr HT.out.2.1 HS.out.2 (fun _ q => q)) (by have := HE.out.2; have := HQ.out.2.2; omega)).mono ?_
        rintro e w7 ⟨rfl, h7, f7⟩
        have H7 := Lib.hid (And.intro h7 (HS.out.2.comp f7))
        clear h7 f7 p0 p1 p2 p3 p4 p5 p6 p7 t5 t7 tl
        go_wp2
        go_roundg (nk - (j + 1))
        case rel => exact ⟨j + 1, rfl, by omega, by simp, Lib.hid ⟨by rw [HQ.out.2.1]; exact H7.out.1, H7.out.2⟩⟩
        case measure => omega
      · have j1 : ¬ (j : Int) < (nk : Int) := by omega
        obtain rfl : nk = j := by omega
        have HF : Hid (SAt wr sb cons (scK cons ks i s1) ∧ Fr (fun b => b = sb) wx wr) := Lib.hid (by
          have h := HS.out
          rw [List.take_of_length_le (by rw [HN.out.1]; exact Nat.le_refl _)] at h
          exact h)
        clear HS
        go_wp2_with fail
        have hal := salts_any (al := al) (ac := ac) HO.out.2.2 HF.out.1 (HR.out.2.2.2.2.2.1.fr (HT.out.2.2.2.comp HF.out.2) (fun _ q => q)) (fun j hj => lawA.fr (HR.out.2.2.2.2.2.2 j hj) (HT.out.2.2.2.comp HF.out.2) (fun _ q => q)) (RowS.fr HT.out.2.1 HF.out.2 (fun _ q => q)) (by have := HE.out.2; omega)
        rw [HN.out.2.2.1] at hal
        refine hal.mono ?_
        rintro e w8 ⟨rfl, h8, f8⟩
        have H8 := Lib.hid (And.intro h8 (HT.out.2.2.2.comp (HF.out.2.comp f8)))
        clear h8 f8 hal t5 t7 tl
        go_wp2
        go_end0
        exact ⟨rfl, by rw [← HRR.out, HE.out.1]; exact H8.out.1, H8.out.2⟩
set_option maxRecDepth 100000 in
set_option maxHeartbeats 8000000 in
theorem sc_con {nm : List UInt8} {fl : Bool} {bi : Nat} {ps : List (List UInt8)} {ks : List TE} {bs : List TB} {al : List TA}  (hK : ∀ e ∈ ks, ScOk cons e) (hB : ∀ b ∈ bs, ScOk cons b.body) (hA : ∀ b ∈ al, ScOk cons b.body) : ScOk cons (.mk 2 nm fl bi ps ks bs al) := by
  intro w sb s i iv cs h hE hi hl9
  cases hE with
  | mk kc bc ac be ae bp an hp hk hk2 hb hb1 hb2 hb3 ha ha1 ha2 ha3 =>
  have hbb : ∀ j (h : j < bs.length), BAt (fun b => b = sb) w (bc j) bs[j] := fun j hj => ⟨bp j, be j, hb1 j hj, hb2 j hj, hb3 j hj⟩
  have haa : ∀ j (h : j < al.length), AAt (fun b => b = sb) w (ac j) al[j] := fun j hj => ⟨an j, ae j, ha1 j hj, ha2 j hj, ha3 j hj⟩
  obtain ⟨a0, c0, rfl⟩ := RowC.shape hp
  obtain ⟨a1, c1, rfl⟩ := hk.shape
  obtain ⟨a2, c2, rfl⟩ := hb.shape
  obtain ⟨a3, c3, rfl⟩ := ha.shape
  have hnk9 : ks.length ≤ 9223372036854775807 := by
    obtain ⟨_, _, e, q1, q2, _⟩ := hk
    unfold maxLen at q2
    omega
  have HR := Lib.hid (And.intro hp (And.intro hk (And.intro hk2 (And.intro hb (And.intro hbb (And.intro ha haa))))))
  obtain ⟨R, hR⟩ : ∃ R, scE cons (.mk 2 nm fl bi ps ks bs al) i s = R := ⟨_, rfl⟩
  rw [hR]
  have HRR := Lib.hid hR
  obtain ⟨ia, ic, rfl⟩ := RowC.shape hi
  obtain ⟨ni, hni⟩ : ∃ n, i.length = n := ⟨_, rfl⟩
  have hi' : RowS (fun b => b = sb) w (.slice ia ni ic) i := by rw [← hni]; exact hi
  have hlt := h.lt
  have hwt : i.length + (wtK ks + (wnB bs + bs.length) + wtA al + ps.length) ≤ 900000 := by
    have := wnB_eq bs
    unfold wtE at hl9
    omega
  have HH := Lib.hid (And.intro h (And.intro hi' (And.intro hni hwt)))
  have HO := Lib.hid (And.intro hK (And.intro hB hA))
  obtain ⟨nk, hnk⟩ : ∃ nk, ks.length = nk := ⟨_, rfl⟩
  obtain ⟨nb, hnb⟩ : ∃ nb, bs.length = nb := ⟨_, rfl⟩
  obtain ⟨na, hna⟩ : ∃ na, al.length = na := ⟨_, rfl⟩
  obtain ⟨np, hnp⟩ : ∃ np, ps.length = np := ⟨_, rfl⟩
  rw [hnk, hnb, hna, hnp, hni]
  rw [hnk] at hnk9
  have HN := Lib.hid (And.intro hnk (And.intro hnb (And.intro hna hnp)))
  clear hp hk hk2 hb hb1 hb2 hb3 ha ha1 ha2 ha3 hbb haa hR h hi hi' hni hl9 hwt hK hB hA hnk hnb hna hnp
  obtain ⟨T, hT⟩ : ∃ T, w.heap.size = T := ⟨_, rfl⟩
  have HTN := Lib.hid (show ¬ (fun b => b = sb) T ∧ w.heap.size = T from ⟨fun q => by have q' : T = sb := q; omega, hT⟩)
  obtain ⟨s1, hs1⟩ : ∃ s1, conS cons nm s = s1 := ⟨_, rfl⟩
  have HE := Lib.hid (show scE cons (.mk 2 nm fl bi ps ks bs al) i s = scA cons al i (scK cons ks i s1) ∧ i.length + (wtK ks + wtA al) ≤ 900000 from ⟨by unfold scE; rw [if_neg (by decide), if_pos rfl, hs1], by have := HH.out.2.2.2; omega⟩)
  have HS1 := Lib.hid hs1
  clear hs1
  go_enter Tryz.func70, Tryz.ntmps70
  go_wp2_with fail
  obtain ⟨W1, hW1⟩ : ∃ W1, w.alloc (.cells #[.int .i64 2, .string ⟨nm.toArray⟩, .bool fl, .int .u64 (bi : Int), .slice a0 np c0, .slice a1 nk c1, .slice a2 nb c2, .slice a3 na c3] 50) = W1 := ⟨_, rfl⟩
  rw [hW1]
  have H1 := Lib.hid (And.intro (show Fr Nil w W1 by rw [← hW1]; (repeat (first | (with_reducible exact Fr.refl _ _) | (with_reducible assumption) | (with_reducible exact Fr.of_nil (by assumption)) | (with_reducible refine Fr.drew ?_) | (with_reducible refine Fr.drewN ?_ _) | (with_reducible refine Fr.alloc ?_ _) | (with_reducible refine Fr.set ?_ _ _ (by first | (intros; omega) | (simp; done) | (simp; omega))) | (with_reducible refine Fr.via ?_ (by assumption)) | (with_reducible refine Fr.comp ?_ (by assumption))))) (show Blk W1 T #[.int .i64 2, .string ⟨nm.toArray⟩, .bool fl, .int .u64 (bi : Int), .slice a0 np c0, .slice a1 nk c1, .slice a2 nb c2, .slice a3 na c3] 50 by rw [← hW1, ← hT]; exact Blk.new _ _ _))
  clear hW1
  refine (con_any (HH.out.1.fr H1.out.1) nm).mono ?_
  rintro e wx ⟨rfl, hx, fx⟩
  rw [HS1.out] at hx
  have hfx : Fr (fun b => b = sb) w wx := (Fr.of_nil H1.out.1).comp fx
  have HT := Lib.hid (And.intro hx (And.intro (RowS.fr HH.out.2.1 hfx (fun _ q => q)) (And.intro (fx.blk H1.out.2 HTN.out.1) hfx)))
  clear hx fx hfx
  have htc : ∀ w', Fr (fun b => b = sb) wx w' → w'.cell? ⟨T, 5, none⟩ = some (.slice a1 nk c1) ∧ w'.cell? ⟨T, 7, none⟩ = some (.slice a3 na c3) ∧ T < w'.heap.size := fun w' f => by
    have b := f.blk HT.out.2.2.1 HTN.out.1
    exact ⟨by have := b.cell 5; simpa using this, by have := b.cell 7; simpa using this, b.lt⟩
  have HTC := Lib.hid htc
  obtain ⟨t5, t7, tl⟩ := HTC.out wx (Fr.refl _ _)
  clear htc
  go_wp2_with fail
  go_loopg [7] nk (fun g jv wr => ∃ j : Nat, g = nk - j ∧ j ≤ nk ∧ jv = .int .i64 (j : Int) ∧ Hid (SAt wr sb cons (scK cons (ks.take j) i s1) ∧ Fr (fun b => b = sb) wx wr))
  case atStart => exact ⟨0, rfl, by omega, rfl, Lib.hid ⟨by simpa [scK] using HT.out.1, Fr.refl _ _⟩⟩
  case round =>
    clear t5 t7 tl
    obtain ⟨j, rfl, hjn, rfl, HS⟩ := hrel
    have j0 : (0 : Int) ≤ (j : Int) := by omega
    obtain ⟨t5, t7, tl⟩ := HTC.out wr HS.out.2
    by_cases hlt : j < nk
    · have hjL : j < ks.length := by rw [HN.out.1]; exact hlt
      have wk : IntKind.i64.wrap ((j : Int) + 1) = (j : Int) + 1 := by rw [IntKind.wrap_i64]; omega
      have j1 : (j : Int) < (nk : Int) := by omega
      obtain ⟨b, off, rfl, hbs, hc⟩ := (HR.out.2.1.fr (HT.out.2.2.2.comp HS.out.2) (fun _ q => q)).at hjL
      have hEA := (HR.out.2.2.1 j hjL).fr (HT.out.2.2.2.comp HS.out.2) (fun _ q => q)
      obtain ⟨k', nm', fl', bi', b0, m0, d0, b1, m1, d1, b2, m2, d2, b3, m3, d3, ec⟩ := hEA.formE
      rw [ec] at hc hEA
      have p0 := hc 0 _ rfl
      have p1 := hc 1 _ rfl
      have p2 := hc 2 _ rfl
      have p3 := hc 3 _ rfl
      have p4 := hc 4 _ rfl
      have p5 := hc 5 _ rfl
      have p6 := hc 6 _ rfl
      have p7 := hc 7 _ rfl
      simp only [Nat.add_zero] at p0
      have hw1 := wtK_take hjL
      have hw2 := wtK_take_le ks (j + 1)
      have HQ := Lib.hid (And.intro hEA (And.intro (scK_take cons hjL i s1) (show wtE ks[j] ≤ wtK ks by omega)))
      clear hEA hc ec hw1 hw2
      go_wp2_with fail
      refine (HO.out.1 _ (List.getElem_mem hjL) _ sb _ _ _ _ HS.out.1 HQ.out.1 (RowS.fr HT.out.2.1 HS.out.2 (fun _ q => q)) (by have := HE.out.2; have := HQ.out.2.2; omega)).mono ?_
      rintro e w7 ⟨rfl, h7, f7⟩
      have H7 := Lib.hid (And.intro h7 (HS.out.2.comp f7))
      clear h7 f7 p0 p1 p2 p3 p4 p5 p6 p7 t5 t7 tl
      go_wp2
      go_roundg (nk - (j + 1))
      case rel => exact ⟨j + 1, rfl, by omega, by simp, Lib.hid ⟨by rw [HQ.out.2.1]; exact H7.out.1, H7.out.2⟩⟩
      case measure => omega
    · have j1 : ¬ (j : Int) < (nk : Int) := by omega
      obtain rfl : nk = j := by omega
      have HF : Hid (SAt wr sb cons (scK cons ks i s1) ∧ Fr (fun b => b = sb) wx wr) := Lib.hid (by
        have h := HS.out
        rw [List.take_of_length_le (by rw [HN.out.1]; exact Nat.le_refl _)] at h
        exact h)
      clear HS
      go_wp2_with fail
      have hal := salts_any (al := al) (ac := ac) HO.out.2.2 HF.out.1 (HR.out.2.2.2.2.2.1.fr (HT.out.2.2.2.comp HF.out.2) (fun _ q => q)) (fun j hj => lawA.fr (HR.out.2.2.2.2.2.2 j hj) (HT.out.2.2.2.comp HF.out.2) (fun _ q => q)) (RowS.fr HT.out.2.1 HF.out.2 (fun _ q => q)) (by have := HE.out.2; omega)
      rw [HN.out.2.2.1] at hal
      refine hal.mono ?_
      rintro e w8 ⟨rfl, h8, f8⟩
      have H8 := Lib.hid (And.intro h8 (HT.out.2.2.2.comp (HF.out.2.comp f8)))
      clear h8 f8 hal t5 t7 tl
      go_wp2
      go_end0
      exact ⟨rfl, by rw [← HRR.out, HE.out.1]; exact H8.out.1, H8.out.2⟩
set_option maxRecDepth 100000 in
set_option maxHeartbeats 8000000 in
theorem sc_else {k : Nat} {nm : List UInt8} {fl : Bool} {bi : Nat} {ps : List (List UInt8)} {ks : List TE} {bs : List TB} {al : List TA} (h1 : k ≠ 1) (h2 : k ≠ 2) (h6 : k ≠ 6) (h8 : k ≠ 8) (hK : ∀ e ∈ ks, ScOk cons e) (hB : ∀ b ∈ bs, ScOk cons b.body) (hA : ∀ b ∈ al, ScOk cons b.body) : ScOk cons (.mk k nm fl bi ps ks bs al) := by
  intro w sb s i iv cs h hE hi hl9
  cases hE with
  | mk kc bc ac be ae bp an hp hk hk2 hb hb1 hb2 hb3 ha ha1 ha2 ha3 =>
  have hbb : ∀ j (h : j < bs.length), BAt (fun b => b = sb) w (bc j) bs[j] := fun j hj => ⟨bp j, be j, hb1 j hj, hb2 j hj, hb3 j hj⟩
  have haa : ∀ j (h : j < al.length), AAt (fun b => b = sb) w (ac j) al[j] := fun j hj => ⟨an j, ae j, ha1 j hj, ha2 j hj, ha3 j hj⟩
  obtain ⟨a0, c0, rfl⟩ := RowC.shape hp
  obtain ⟨a1, c1, rfl⟩ := hk.shape
  obtain ⟨a2, c2, rfl⟩ := hb.shape
  obtain ⟨a3, c3, rfl⟩ := ha.shape
  have hnk9 : ks.length ≤ 9223372036854775807 := by
    obtain ⟨_, _, e, q1, q2, _⟩ := hk
    unfold maxLen at q2
    omega
  have HR := Lib.hid (And.intro hp (And.intro hk (And.intro hk2 (And.intro hb (And.intro hbb (And.intro ha haa))))))
  obtain ⟨R, hR⟩ : ∃ R, scE cons (.mk k nm fl bi ps ks bs al) i s = R := ⟨_, rfl⟩
  rw [hR]
  have HRR := Lib.hid hR
  obtain ⟨ia, ic, rfl⟩ := RowC.shape hi
  obtain ⟨ni, hni⟩ : ∃ n, i.length = n := ⟨_, rfl⟩
  have hi' : RowS (fun b => b = sb) w (.slice ia ni ic) i := by rw [← hni]; exact hi
  have hlt := h.lt
  have hwt : i.length + (wtK ks + (wnB bs + bs.length) + wtA al + ps.length) ≤ 900000 := by
    have := wnB_eq bs
    unfold wtE at hl9
    omega
  have HH := Lib.hid (And.intro h (And.intro hi' (And.intro hni hwt)))
  have HO := Lib.hid (And.intro hK (And.intro hB hA))
  obtain ⟨nk, hnk⟩ : ∃ nk, ks.length = nk := ⟨_, rfl⟩
  obtain ⟨nb, hnb⟩ : ∃ nb, bs.length = nb := ⟨_, rfl⟩
  obtain ⟨na, hna⟩ : ∃ na, al.length = na := ⟨_, rfl⟩
  obtain ⟨np, hnp⟩ : ∃ np, ps.length = np := ⟨_, rfl⟩
  rw [hnk, hnb, hna, hnp, hni]
  rw [hnk] at hnk9
  have HN := Lib.hid (And.intro hnk (And.intro hnb (And.intro hna hnp)))
  clear hp hk hk2 hb hb1 hb2 hb3 ha ha1 ha2 ha3 hbb haa hR h hi hi' hni hl9 hwt hK hB hA hnk hnb hna hnp
  obtain ⟨T, hT⟩ : ∃ T, w.heap.size = T := ⟨_, rfl⟩
  have HTN := Lib.hid (show ¬ (fun b => b = sb) T ∧ w.heap.size = T from ⟨fun q => by have q' : T = sb := q; omega, hT⟩)
  have HE := Lib.hid (show scE cons (.mk k nm fl bi ps ks bs al) i s = scA cons al i (scK cons ks i s) ∧ i.length + (wtK ks + wtA al) ≤ 900000 from ⟨by unfold scE; rw [if_neg h1, if_neg h2, if_neg h6, if_neg h8], by have := HH.out.2.2.2; omega⟩)
  have e1 : ((k : Int) == 1) = false := beq_false_of_ne (by omega)
  have e2 : ((k : Int) == 2) = false := beq_false_of_ne (by omega)
  have e6 : ((k : Int) == 6) = false := beq_false_of_ne (by omega)
  have e8 : ((k : Int) == 8) = false := beq_false_of_ne (by omega)
  clear h1 h2 h6 h8
  go_enter Tryz.func70, Tryz.ntmps70
  go_upto_region 15 with fail
  obtain ⟨wx, hwx⟩ : ∃ wx, w.alloc (.cells #[.int .i64 (k : Int), .string ⟨nm.toArray⟩, .bool fl, .int .u64 (bi : Int), .slice a0 np c0, .slice a1 nk c1, .slice a2 nb c2, .slice a3 na c3] 50) = wx := ⟨_, rfl⟩
  rw [hwx]
  have H1 := Lib.hid (And.intro (show Fr Nil w wx by rw [← hwx]; (repeat (first | (with_reducible exact Fr.refl _ _) | (with_reducible assumption) | (with_reducible exact Fr.of_nil (by assumption)) | (with_reducible refine Fr.drew ?_) | (with_reducible refine Fr.drewN ?_ _) | (with_reducible refine Fr.alloc ?_ _) | (with_reducible refine Fr.set ?_ _ _ (by first | (intros; omega) | (simp; done) | (simp; omega))) | (with_reducible refine Fr.via ?_ (by assumption)) | (with_reducible refine Fr.comp ?_ (by assumption))))) (show Blk wx T #[.int .i64 (k : Int), .string ⟨nm.toArray⟩, .bool fl, .int .u64 (bi : Int), .slice a0 np c0, .slice a1 nk c1, .slice a2 nb c2, .slice a3 na c3] 50 by rw [← hwx, ← hT]; exact Blk.new _ _ _))
  clear hwx
  have HT := Lib.hid (And.intro (HH.out.1.fr H1.out.1) (And.intro (RowS.fr HH.out.2.1 H1.out.1 (fun _ q => q.elim)) (And.intro H1.out.2 (Fr.of_nil (S := fun b => b = sb) H1.out.1))))
  have htc : ∀ w', Fr (fun b => b = sb) wx w' → w'.cell? ⟨T, 5, none⟩ = some (.slice a1 nk c1) ∧ w'.cell? ⟨T, 7, none⟩ = some (.slice a3 na c3) ∧ T < w'.heap.size := fun w' f => by
    have b := f.blk HT.out.2.2.1 HTN.out.1
    exact ⟨by have := b.cell 5; simpa using this, by have := b.cell 7; simpa using this, b.lt⟩
  have HTC := Lib.hid htc
  obtain ⟨t5, t7, tl⟩ := HTC.out wx (Fr.refl _ _)
  clear htc
  go_wp2_with fail
  go_loopg [7] nk (fun g jv wr => ∃ j : Nat, g = nk - j ∧ j ≤ nk ∧ jv = .int .i64 (j : Int) ∧ Hid (SAt wr sb cons (scK cons (ks.take j) i s) ∧ Fr (fun b => b = sb) wx wr))
  case atStart => exact ⟨0, rfl, by omega, rfl, Lib.hid ⟨by simpa [scK] using HT.out.1, Fr.refl _ _⟩⟩
  case round =>
    clear t5 t7 tl
    obtain ⟨j, rfl, hjn, rfl, HS⟩ := hrel
    have j0 : (0 : Int) ≤ (j : Int) := by omega
    obtain ⟨t5, t7, tl⟩ := HTC.out wr HS.out.2
    by_cases hlt : j < nk
    · have hjL : j < ks.length := by rw [HN.out.1]; exact hlt
      have wk : IntKind.i64.wrap ((j : Int) + 1) = (j : Int) + 1 := by rw [IntKind.wrap_i64]; omega
      have j1 : (j : Int) < (nk : Int) := by omega
      obtain ⟨b, off, rfl, hbs, hc⟩ := (HR.out.2.1.fr (HT.out.2.2.2.comp HS.out.2) (fun _ q => q)).at hjL
      have hEA := (HR.out.2.2.1 j hjL).fr (HT.out.2.2.2.comp HS.out.2) (fun _ q => q)
      obtain ⟨k', nm', fl', bi', b0, m0, d0, b1, m1, d1, b2, m2, d2, b3, m3, d3, ec⟩ := hEA.formE
      rw [ec] at hc hEA
      have p0 := hc 0 _ rfl
      have p1 := hc 1 _ rfl
      have p2 := hc 2 _ rfl
      have p3 := hc 3 _ rfl
      have p4 := hc 4 _ rfl
      have p5 := hc 5 _ rfl
      have p6 := hc 6 _ rfl
      have p7 := hc 7 _ rfl
      simp only [Nat.add_zero] at p0
      have hw1 := wtK_take hjL
      have hw2 := wtK_take_le ks (j + 1)
      have HQ := Lib.hid (And.intro hEA (And.intro (scK_take cons hjL i s) (show wtE ks[j] ≤ wtK ks by omega)))
      clear hEA hc ec hw1 hw2
      go_wp2_with fail
      refine (HO.out.1 _ (List.getElem_mem hjL) _ sb _ _ _ _ HS.out.1 HQ.out.1 (RowS.fr HT.out.2.1 HS.out.2 (fun _ q => q)) (by have := HE.out.2; have := HQ.out.2.2; omega)).mono ?_
      rintro e w7 ⟨rfl, h7, f7⟩
      have H7 := Lib.hid (And.intro h7 (HS.out.2.comp f7))
      clear h7 f7 p0 p1 p2 p3 p4 p5 p6 p7 t5 t7 tl
      go_wp2
      go_roundg (nk - (j + 1))
      case rel => exact ⟨j + 1, rfl, by omega, by simp, Lib.hid ⟨by rw [HQ.out.2.1]; exact H7.out.1, H7.out.2⟩⟩
      case measure => omega
    · have j1 : ¬ (j : Int) < (nk : Int) := by omega
      obtain rfl : nk = j := by omega
      have HF : Hid (SAt wr sb cons (scK cons ks i s) ∧ Fr (fun b => b = sb) wx wr) := Lib.hid (by
        have h := HS.out
        rw [List.take_of_length_le (by rw [HN.out.1]; exact Nat.le_refl _)] at h
        exact h)
      clear HS
      go_wp2_with fail
      have hal := salts_any (al := al) (ac := ac) HO.out.2.2 HF.out.1 (HR.out.2.2.2.2.2.1.fr (HT.out.2.2.2.comp HF.out.2) (fun _ q => q)) (fun j hj => lawA.fr (HR.out.2.2.2.2.2.2 j hj) (HT.out.2.2.2.comp HF.out.2) (fun _ q => q)) (RowS.fr HT.out.2.1 HF.out.2 (fun _ q => q)) (by have := HE.out.2; omega)
      rw [HN.out.2.2.1] at hal
      refine hal.mono ?_
      rintro e w8 ⟨rfl, h8, f8⟩
      have H8 := Lib.hid (And.intro h8 (HT.out.2.2.2.comp (HF.out.2.comp f8)))
      clear h8 f8 hal t5 t7 tl
      go_wp2
      go_end0
      exact ⟨rfl, by rw [← HRR.out, HE.out.1]; exact H8.out.1, H8.out.2⟩
set_option maxRecDepth 100000 in
set_option maxHeartbeats 8000000 in
theorem sc_lam {nm : List UInt8} {fl : Bool} {bi : Nat} {ps : List (List UInt8)} {ks : List TE} {bs : List TB} {al : List TA}  (hK : ∀ e ∈ ks, ScOk cons e) (hB : ∀ b ∈ bs, ScOk cons b.body) (hA : ∀ b ∈ al, ScOk cons b.body) : ScOk cons (.mk 8 nm fl bi ps ks bs al) := by
  intro w sb s i iv cs h hE hi hl9
  cases hE with
  | mk kc bc ac be ae bp an hp hk hk2 hb hb1 hb2 hb3 ha ha1 ha2 ha3 =>
  have hbb : ∀ j (h : j < bs.length), BAt (fun b => b = sb) w (bc j) bs[j] := fun j hj => ⟨bp j, be j, hb1 j hj, hb2 j hj, hb3 j hj⟩
  have haa : ∀ j (h : j < al.length), AAt (fun b => b = sb) w (ac j) al[j] := fun j hj => ⟨an j, ae j, ha1 j hj, ha2 j hj, ha3 j hj⟩
  obtain ⟨a0, c0, rfl⟩ := RowC.shape hp
  obtain ⟨a1, c1, rfl⟩ := hk.shape
  obtain ⟨a2, c2, rfl⟩ := hb.shape
  obtain ⟨a3, c3, rfl⟩ := ha.shape
  have hnk9 : ks.length ≤ 9223372036854775807 := by
    obtain ⟨_, _, e, q1, q2, _⟩ := hk
    unfold maxLen at q2
    omega
  have HR := Lib.hid (And.intro hp (And.intro hk (And.intro hk2 (And.intro hb (And.intro hbb (And.intro ha haa))))))
  obtain ⟨R, hR⟩ : ∃ R, scE cons (.mk 8 nm fl bi ps ks bs al) i s = R := ⟨_, rfl⟩
  rw [hR]
  have HRR := Lib.hid hR
  obtain ⟨ia, ic, rfl⟩ := RowC.shape hi
  obtain ⟨ni, hni⟩ : ∃ n, i.length = n := ⟨_, rfl⟩
  have hi' : RowS (fun b => b = sb) w (.slice ia ni ic) i := by rw [← hni]; exact hi
  have hlt := h.lt
  have hwt : i.length + (wtK ks + (wnB bs + bs.length) + wtA al + ps.length) ≤ 900000 := by
    have := wnB_eq bs
    unfold wtE at hl9
    omega
  have HH := Lib.hid (And.intro h (And.intro hi' (And.intro hni hwt)))
  have HO := Lib.hid (And.intro hK (And.intro hB hA))
  obtain ⟨nk, hnk⟩ : ∃ nk, ks.length = nk := ⟨_, rfl⟩
  obtain ⟨nb, hnb⟩ : ∃ nb, bs.length = nb := ⟨_, rfl⟩
  obtain ⟨na, hna⟩ : ∃ na, al.length = na := ⟨_, rfl⟩
  obtain ⟨np, hnp⟩ : ∃ np, ps.length = np := ⟨_, rfl⟩
  rw [hnk, hnb, hna, hnp, hni]
  rw [hnk] at hnk9
  have HN := Lib.hid (And.intro hnk (And.intro hnb (And.intro hna hnp)))
  clear hp hk hk2 hb hb1 hb2 hb3 ha ha1 ha2 ha3 hbb haa hR h hi hi' hni hl9 hwt hK hB hA hnk hnb hna hnp
  obtain ⟨T, hT⟩ : ∃ T, w.heap.size = T := ⟨_, rfl⟩
  have HTN := Lib.hid (show ¬ (fun b => b = sb) T ∧ w.heap.size = T from ⟨fun q => by have q' : T = sb := q; omega, hT⟩)
  obtain ⟨s1, hs1⟩ : ∃ s1, twF ps s = s1 := ⟨_, rfl⟩
  obtain ⟨i1, hi1⟩ : ∃ i1, i ++ ps = i1 := ⟨_, rfl⟩
  obtain ⟨n1, hn1⟩ : ∃ n, i1.length = n := ⟨_, rfl⟩
  have hl1 : i1.length = i.length + ps.length := by rw [← hi1, List.length_append]
  have HE := Lib.hid (show scE cons (.mk 8 nm fl bi ps ks bs al) i s = scA cons al i1 (scK cons ks i1 s1) ∧ i1.length + (wtK ks + wtA al) ≤ 900000 from ⟨by unfold scE; rw [if_neg (by decide), if_neg (by decide), if_neg (by decide), if_pos rfl, hs1, hi1], by have := HH.out.2.2.2; omega⟩)
  have HS1 := Lib.hid (And.intro hs1 (And.intro hi1 hn1))
  have hprow : RowS (fun b => b = sb) w (.slice a0 np c0) ps := by
    have h := HR.out.1
    rw [HN.out.2.2.2] at h
    exact h
  have HP := Lib.hid hprow
  clear hs1 hi1 hn1 hl1 hprow
  go_enter Tryz.func70, Tryz.ntmps70
  go_wp2_with fail
  obtain ⟨W1, hW1⟩ : ∃ W1, w.alloc (.cells #[.int .i64 8, .string ⟨nm.toArray⟩, .bool fl, .int .u64 (bi : Int), .slice a0 np c0, .slice a1 nk c1, .slice a2 nb c2, .slice a3 na c3] 50) = W1 := ⟨_, rfl⟩
  rw [hW1]
  have H1 := Lib.hid (And.intro (show Fr Nil w W1 by rw [← hW1]; (repeat (first | (with_reducible exact Fr.refl _ _) | (with_reducible assumption) | (with_reducible exact Fr.of_nil (by assumption)) | (with_reducible refine Fr.drew ?_) | (with_reducible refine Fr.drewN ?_ _) | (with_reducible refine Fr.alloc ?_ _) | (with_reducible refine Fr.set ?_ _ _ (by first | (intros; omega) | (simp; done) | (simp; omega))) | (with_reducible refine Fr.via ?_ (by assumption)) | (with_reducible refine Fr.comp ?_ (by assumption))))) (show Blk W1 T #[.int .i64 8, .string ⟨nm.toArray⟩, .bool fl, .int .u64 (bi : Int), .slice a0 np c0, .slice a1 nk c1, .slice a2 nb c2, .slice a3 na c3] 50 by rw [← hW1, ← hT]; exact Blk.new _ _ _))
  clear hW1
  refine (ztwice_any (HH.out.1.fr H1.out.1) (RowS.fr HP.out (S := Nil) H1.out.1 (fun _ q => q.elim)) (by have := HH.out.2.2.2; omega)).mono ?_
  rintro e w2 ⟨rfl, h2, f2⟩
  rw [HS1.out.1] at h2
  have b2 := f2.blk H1.out.2 HTN.out.1
  have t3 := b2.cell 3
  have t4 := b2.cell 4
  simp at t3 t4
  have tl2 := b2.lt
  have hsb2 := h2.lt
  have H2 := Lib.hid (And.intro h2 (And.intro ((Fr.of_nil (S := fun b => b = sb) H1.out.1).comp f2) b2))
  clear h2 f2 b2
  go_wp2_with fail
  refine (join10_row (sb := sb) (RowS.fr HH.out.2.1 H2.out.2.1 (fun _ q => q)) (RowS.fr HP.out H2.out.2.1 (fun _ q => q)) (by have := HH.out.2.2.2; omega) hsb2 HS1.out.2.1 HS1.out.2.2).mono ?_
  rintro e wx ⟨xa, xc, rfl, rx, fx⟩
  have HT := Lib.hid (And.intro (H2.out.1.fr fx) (And.intro rx (And.intro (fx.blk H2.out.2.2 (fun q => q)) (H2.out.2.1.comp (Fr.of_nil (S := fun b => b = sb) fx)))))
  clear rx fx t3 t4 tl2
  have htc : ∀ w', Fr (fun b => b = sb) wx w' → w'.cell? ⟨T, 5, none⟩ = some (.slice a1 nk c1) ∧ w'.cell? ⟨T, 7, none⟩ = some (.slice a3 na c3) ∧ T < w'.heap.size := fun w' f => by
    have b := f.blk HT.out.2.2.1 HTN.out.1
    exact ⟨by have := b.cell 5; simpa using this, by have := b.cell 7; simpa using this, b.lt⟩
  have HTC := Lib.hid htc
  obtain ⟨t5, t7, tl⟩ := HTC.out wx (Fr.refl _ _)
  clear htc
  go_wp2_with fail
  go_loopg [7] nk (fun g jv wr => ∃ j : Nat, g = nk - j ∧ j ≤ nk ∧ jv = .int .i64 (j : Int) ∧ Hid (SAt wr sb cons (scK cons (ks.take j) i1 s1) ∧ Fr (fun b => b = sb) wx wr))
  case atStart => exact ⟨0, rfl, by omega, rfl, Lib.hid ⟨by simpa [scK] using HT.out.1, Fr.refl _ _⟩⟩
  case round =>
    clear t5 t7 tl
    obtain ⟨j, rfl, hjn, rfl, HS⟩ := hrel
    have j0 : (0 : Int) ≤ (j : Int) := by omega
    obtain ⟨t5, t7, tl⟩ := HTC.out wr HS.out.2
    by_cases hlt : j < nk
    · have hjL : j < ks.length := by rw [HN.out.1]; exact hlt
      have wk : IntKind.i64.wrap ((j : Int) + 1) = (j : Int) + 1 := by rw [IntKind.wrap_i64]; omega
      have j1 : (j : Int) < (nk : Int) := by omega
      obtain ⟨b, off, rfl, hbs, hc⟩ := (HR.out.2.1.fr (HT.out.2.2.2.comp HS.out.2) (fun _ q => q)).at hjL
      have hEA := (HR.out.2.2.1 j hjL).fr (HT.out.2.2.2.comp HS.out.2) (fun _ q => q)
      obtain ⟨k', nm', fl', bi', b0, m0, d0, b1, m1, d1, b2, m2, d2, b3, m3, d3, ec⟩ := hEA.formE
      rw [ec] at hc hEA
      have p0 := hc 0 _ rfl
      have p1 := hc 1 _ rfl
      have p2 := hc 2 _ rfl
      have p3 := hc 3 _ rfl
      have p4 := hc 4 _ rfl
      have p5 := hc 5 _ rfl
      have p6 := hc 6 _ rfl
      have p7 := hc 7 _ rfl
      simp only [Nat.add_zero] at p0
      have hw1 := wtK_take hjL
      have hw2 := wtK_take_le ks (j + 1)
      have HQ := Lib.hid (And.intro hEA (And.intro (scK_take cons hjL i1 s1) (show wtE ks[j] ≤ wtK ks by omega)))
      clear hEA hc ec hw1 hw2
      go_wp2_with fail
      refine (HO.out.1 _ (List.getElem_mem hjL) _ sb _ _ _ _ HS.out.1 HQ.out.1 (RowS.fr HT.out.2.1 HS.out.2 (fun _ q => q)) (by have := HE.out.2; have := HQ.out.2.2; omega)).mono ?_
      rintro e w7 ⟨rfl, h7, f7⟩
      have H7 := Lib.hid (And.intro h7 (HS.out.2.comp f7))
      clear h7 f7 p0 p1 p2 p3 p4 p5 p6 p7 t5 t7 tl
      go_wp2
      go_roundg (nk - (j + 1))
      case rel => exact ⟨j + 1, rfl, by omega, by simp, Lib.hid ⟨by rw [HQ.out.2.1]; exact H7.out.1, H7.out.2⟩⟩
      case measure => omega
    · have j1 : ¬ (j : Int) < (nk : Int) := by omega
      obtain rfl : nk = j := by omega
      have HF : Hid (SAt wr sb cons (scK cons ks i1 s1) ∧ Fr (fun b => b = sb) wx wr) := Lib.hid (by
        have h := HS.out
        rw [List.take_of_length_le (by rw [HN.out.1]; exact Nat.le_refl _)] at h
        exact h)
      clear HS
      go_wp2_with fail
      have hal := salts_any (al := al) (ac := ac) HO.out.2.2 HF.out.1 (HR.out.2.2.2.2.2.1.fr (HT.out.2.2.2.comp HF.out.2) (fun _ q => q)) (fun j hj => lawA.fr (HR.out.2.2.2.2.2.2 j hj) (HT.out.2.2.2.comp HF.out.2) (fun _ q => q)) (RowS.fr HT.out.2.1 HF.out.2 (fun _ q => q)) (by have := HE.out.2; omega)
      rw [HN.out.2.2.1] at hal
      refine hal.mono ?_
      rintro e w8 ⟨rfl, h8, f8⟩
      have H8 := Lib.hid (And.intro h8 (HT.out.2.2.2.comp (HF.out.2.comp f8)))
      clear h8 f8 hal t5 t7 tl
      go_wp2
      go_end0
      exact ⟨rfl, by rw [← HRR.out, HE.out.1]; exact H8.out.1, H8.out.2⟩
set_option maxRecDepth 100000 in
set_option maxHeartbeats 8000000 in
theorem sc_let {nm : List UInt8} {fl : Bool} {bi : Nat} {ps : List (List UInt8)} {ks : List TE} {bs : List TB} {al : List TA}  (hK : ∀ e ∈ ks, ScOk cons e) (hB : ∀ b ∈ bs, ScOk cons b.body) (hA : ∀ b ∈ al, ScOk cons b.body) : ScOk cons (.mk 6 nm fl bi ps ks bs al) := by
  intro w sb s i iv cs h hE hi hl9
  cases hE with
  | mk kc bc ac be ae bp an hp hk hk2 hb hb1 hb2 hb3 ha ha1 ha2 ha3 =>
  have hbb : ∀ j (h : j < bs.length), BAt (fun b => b = sb) w (bc j) bs[j] := fun j hj => ⟨bp j, be j, hb1 j hj, hb2 j hj, hb3 j hj⟩
  have haa : ∀ j (h : j < al.length), AAt (fun b => b = sb) w (ac j) al[j] := fun j hj => ⟨an j, ae j, ha1 j hj, ha2 j hj, ha3 j hj⟩
  obtain ⟨a0, c0, rfl⟩ := RowC.shape hp
  obtain ⟨a1, c1, rfl⟩ := hk.shape
  obtain ⟨a2, c2, rfl⟩ := hb.shape
  obtain ⟨a3, c3, rfl⟩ := ha.shape
  have hnk9 : ks.length ≤ 9223372036854775807 := by
    obtain ⟨_, _, e, q1, q2, _⟩ := hk
    unfold maxLen at q2
    omega
  have HR := Lib.hid (And.intro hp (And.intro hk (And.intro hk2 (And.intro hb (And.intro hbb (And.intro ha haa))))))
  obtain ⟨R, hR⟩ : ∃ R, scE cons (.mk 6 nm fl bi ps ks bs al) i s = R := ⟨_, rfl⟩
  rw [hR]
  have HRR := Lib.hid hR
  obtain ⟨ia, ic, rfl⟩ := RowC.shape hi
  obtain ⟨ni, hni⟩ : ∃ n, i.length = n := ⟨_, rfl⟩
  have hi' : RowS (fun b => b = sb) w (.slice ia ni ic) i := by rw [← hni]; exact hi
  have hlt := h.lt
  have hwt : i.length + (wtK ks + (wnB bs + bs.length) + wtA al + ps.length) ≤ 900000 := by
    have := wnB_eq bs
    unfold wtE at hl9
    omega
  have HH := Lib.hid (And.intro h (And.intro hi' (And.intro hni hwt)))
  have HO := Lib.hid (And.intro hK (And.intro hB hA))
  obtain ⟨nk, hnk⟩ : ∃ nk, ks.length = nk := ⟨_, rfl⟩
  obtain ⟨nb, hnb⟩ : ∃ nb, bs.length = nb := ⟨_, rfl⟩
  obtain ⟨na, hna⟩ : ∃ na, al.length = na := ⟨_, rfl⟩
  obtain ⟨np, hnp⟩ : ∃ np, ps.length = np := ⟨_, rfl⟩
  rw [hnk, hnb, hna, hnp, hni]
  rw [hnk] at hnk9
  have HN := Lib.hid (And.intro hnk (And.intro hnb (And.intro hna hnp)))
  clear hp hk hk2 hb hb1 hb2 hb3 ha ha1 ha2 ha3 hbb haa hR h hi hi' hni hl9 hwt hK hB hA hnk hnb hna hnp
  obtain ⟨T, hT⟩ : ∃ T, w.heap.size = T := ⟨_, rfl⟩
  have HTN := Lib.hid (show ¬ (fun b => b = sb) T ∧ w.heap.size = T from ⟨fun q => by have q' : T = sb := q; omega, hT⟩)
  obtain ⟨s2, hs2⟩ : ∃ s1, twF (nmB bs) s = s1 := ⟨_, rfl⟩
  obtain ⟨i1, hi1⟩ : ∃ i1, i ++ nmB bs = i1 := ⟨_, rfl⟩
  obtain ⟨s1, hs1⟩ : ∃ s1, scB cons bs i1 s2 = s1 := ⟨_, rfl⟩
  obtain ⟨n1, hn1⟩ : ∃ n, i1.length = n := ⟨_, rfl⟩
  have hnm : (nmB bs).length = bs.length := by simp [nmB]
  have hl1 : i1.length = i.length + bs.length := by rw [← hi1, List.length_append, hnm]
  have HE := Lib.hid (show scE cons (.mk 6 nm fl bi ps ks bs al) i s = scA cons al i1 (scK cons ks i1 s1) ∧ i1.length + (wtK ks + wtA al) ≤ 900000 from ⟨by unfold scE; rw [if_neg (by decide), if_neg (by decide), if_pos rfl, hs2, hi1, hs1], by have := HH.out.2.2.2; omega⟩)
  have HS1 := Lib.hid (And.intro hs1 (And.intro hi1 (And.intro hn1 (And.intro hs2 (And.intro hnm hl1)))))
  clear hs1 hi1 hn1 hl1 hs2 hnm
  go_enter Tryz.func70, Tryz.ntmps70
  go_wp2_with fail
  obtain ⟨W1, hW1⟩ : ∃ W1, w.alloc (.cells #[.int .i64 6, .string ⟨nm.toArray⟩, .bool fl, .int .u64 (bi : Int), .slice a0 np c0, .slice a1 nk c1, .slice a2 nb c2, .slice a3 na c3] 50) = W1 := ⟨_, rfl⟩
  rw [hW1]
  have H1 := Lib.hid (And.intro (show Fr Nil w W1 by rw [← hW1]; (repeat (first | (with_reducible exact Fr.refl _ _) | (with_reducible assumption) | (with_reducible exact Fr.of_nil (by assumption)) | (with_reducible refine Fr.drew ?_) | (with_reducible refine Fr.drewN ?_ _) | (with_reducible refine Fr.alloc ?_ _) | (with_reducible refine Fr.set ?_ _ _ (by first | (intros; omega) | (simp; done) | (simp; omega))) | (with_reducible refine Fr.via ?_ (by assumption)) | (with_reducible refine Fr.comp ?_ (by assumption))))) (show Blk W1 T #[.int .i64 6, .string ⟨nm.toArray⟩, .bool fl, .int .u64 (bi : Int), .slice a0 np c0, .slice a1 nk c1, .slice a2 nb c2, .slice a3 na c3] 50 by rw [← hW1, ← hT]; exact Blk.new _ _ _))
  clear hW1
  have hbr : BindsAt (fun b => b = sb) W1 (.slice a2 nb c2) bs := ⟨bc, by have h := HR.out.2.2.2.1.fr H1.out.1 (fun _ q => q.elim); rw [HN.out.2.1] at h ⊢; exact h, fun j hj => lawB.fr (HR.out.2.2.2.2.1 j hj) H1.out.1 (fun _ q => q.elim)⟩
  refine (names10_any hbr (by have := HH.out.2.2.2; omega)).mono ?_
  rintro e w2 ⟨v2, rfl, own2, f2⟩
  obtain ⟨ma, mc, rfl⟩ := owns_shape own2
  have hw2 : sb < W1.heap.size := by have := H1.out.1.size; omega
  have r2 : RowS (fun b => b = sb) w2 (.slice ma nb mc) (nmB bs) := by
    have h : RowS (fun b => b = sb) w2 _ (nmB bs) := RowC.mono (owns_row own2) (by decide) (fun b _ q => by have q' : b = sb := q; omega)
    rw [HS1.out.2.2.2.2.1, HN.out.2.1] at h
    exact h
  rw [HS1.out.2.2.2.2.1, HN.out.2.1]
  have b2 := f2.blk H1.out.2 (fun q => q)
  have H2 := Lib.hid (And.intro r2 (And.intro (H1.out.1.comp f2) b2))
  clear own2 f2 r2 b2 hbr
  go_wp2_with fail
  refine (ztwice_any (HH.out.1.fr H2.out.2.1) H2.out.1 (by have := HS1.out.2.2.2.2.1; have := HH.out.2.2.2; omega)).mono ?_
  rintro e w3 ⟨rfl, h3, f3⟩
  rw [HS1.out.2.2.2.1] at h3
  have hsb3 := h3.lt
  have H3 := Lib.hid (And.intro h3 (And.intro ((Fr.of_nil (S := fun b => b = sb) H2.out.2.1).comp f3) (And.intro (f3.blk H2.out.2.2 HTN.out.1) (RowS.fr H2.out.1 f3 (fun _ q => q)))))
  clear h3 f3
  go_wp2_with fail
  refine (join10_row (sb := sb) (RowS.fr HH.out.2.1 H3.out.2.1 (fun _ q => q)) H3.out.2.2.2 (by have := HS1.out.2.2.2.2.1; have := HH.out.2.2.2; omega) hsb3 HS1.out.2.1 HS1.out.2.2.1).mono ?_
  rintro e w4 ⟨xa, xc, rfl, rx, fx⟩
  have b4 := fx.blk H3.out.2.2.1 (fun q => q)
  have t6 := b4.cell 6
  simp at t6
  have tl4 := b4.lt
  have H4 := Lib.hid (And.intro (H3.out.1.fr fx) (And.intro rx (And.intro b4 (H3.out.2.1.comp (Fr.of_nil (S := fun b => b = sb) fx)))))
  clear rx fx b4
  go_wp2_with fail
  have hbd := sbinds_any (bs := bs) (bc := bc) HO.out.2.1 H4.out.1 (HR.out.2.2.2.1.fr H4.out.2.2.2 (fun _ q => q)) (fun j hj => lawB.fr (HR.out.2.2.2.2.1 j hj) H4.out.2.2.2 (fun _ q => q)) H4.out.2.1 (by have := HS1.out.2.2.2.2.2; have := HH.out.2.2.2; omega)
  rw [HN.out.2.1, HS1.out.1] at hbd
  refine hbd.mono ?_
  rintro e wx ⟨rfl, hx, fx⟩
  have HT := Lib.hid (And.intro hx (And.intro (RowS.fr H4.out.2.1 fx (fun _ q => q)) (And.intro (fx.blk H4.out.2.2.1 HTN.out.1) (H4.out.2.2.2.comp fx))))
  clear hx fx t6 tl4 hbd
  have htc : ∀ w', Fr (fun b => b = sb) wx w' → w'.cell? ⟨T, 5, none⟩ = some (.slice a1 nk c1) ∧ w'.cell? ⟨T, 7, none⟩ = some (.slice a3 na c3) ∧ T < w'.heap.size := fun w' f => by
    have b := f.blk HT.out.2.2.1 HTN.out.1
    exact ⟨by have := b.cell 5; simpa using this, by have := b.cell 7; simpa using this, b.lt⟩
  have HTC := Lib.hid htc
  obtain ⟨t5, t7, tl⟩ := HTC.out wx (Fr.refl _ _)
  clear htc
  go_wp2_with fail
  go_loopg [7] nk (fun g jv wr => ∃ j : Nat, g = nk - j ∧ j ≤ nk ∧ jv = .int .i64 (j : Int) ∧ Hid (SAt wr sb cons (scK cons (ks.take j) i1 s1) ∧ Fr (fun b => b = sb) wx wr))
  case atStart => exact ⟨0, rfl, by omega, rfl, Lib.hid ⟨by simpa [scK] using HT.out.1, Fr.refl _ _⟩⟩
  case round =>
    clear t5 t7 tl
    obtain ⟨j, rfl, hjn, rfl, HS⟩ := hrel
    have j0 : (0 : Int) ≤ (j : Int) := by omega
    obtain ⟨t5, t7, tl⟩ := HTC.out wr HS.out.2
    by_cases hlt : j < nk
    · have hjL : j < ks.length := by rw [HN.out.1]; exact hlt
      have wk : IntKind.i64.wrap ((j : Int) + 1) = (j : Int) + 1 := by rw [IntKind.wrap_i64]; omega
      have j1 : (j : Int) < (nk : Int) := by omega
      obtain ⟨b, off, rfl, hbs, hc⟩ := (HR.out.2.1.fr (HT.out.2.2.2.comp HS.out.2) (fun _ q => q)).at hjL
      have hEA := (HR.out.2.2.1 j hjL).fr (HT.out.2.2.2.comp HS.out.2) (fun _ q => q)
      obtain ⟨k', nm', fl', bi', b0, m0, d0, b1, m1, d1, b2, m2, d2, b3, m3, d3, ec⟩ := hEA.formE
      rw [ec] at hc hEA
      have p0 := hc 0 _ rfl
      have p1 := hc 1 _ rfl
      have p2 := hc 2 _ rfl
      have p3 := hc 3 _ rfl
      have p4 := hc 4 _ rfl
      have p5 := hc 5 _ rfl
      have p6 := hc 6 _ rfl
      have p7 := hc 7 _ rfl
      simp only [Nat.add_zero] at p0
      have hw1 := wtK_take hjL
      have hw2 := wtK_take_le ks (j + 1)
      have HQ := Lib.hid (And.intro hEA (And.intro (scK_take cons hjL i1 s1) (show wtE ks[j] ≤ wtK ks by omega)))
      clear hEA hc ec hw1 hw2
      go_wp2_with fail
      refine (HO.out.1 _ (List.getElem_mem hjL) _ sb _ _ _ _ HS.out.1 HQ.out.1 (RowS.fr HT.out.2.1 HS.out.2 (fun _ q => q)) (by have := HE.out.2; have := HQ.out.2.2; omega)).mono ?_
      rintro e w7 ⟨rfl, h7, f7⟩
      have H7 := Lib.hid (And.intro h7 (HS.out.2.comp f7))
      clear h7 f7 p0 p1 p2 p3 p4 p5 p6 p7 t5 t7 tl
      go_wp2
      go_roundg (nk - (j + 1))
      case rel => exact ⟨j + 1, rfl, by omega, by simp, Lib.hid ⟨by rw [HQ.out.2.1]; exact H7.out.1, H7.out.2⟩⟩
      case measure => omega
    · have j1 : ¬ (j : Int) < (nk : Int) := by omega
      obtain rfl : nk = j := by omega
      have HF : Hid (SAt wr sb cons (scK cons ks i1 s1) ∧ Fr (fun b => b = sb) wx wr) := Lib.hid (by
        have h := HS.out
        rw [List.take_of_length_le (by rw [HN.out.1]; exact Nat.le_refl _)] at h
        exact h)
      clear HS
      go_wp2_with fail
      have hal := salts_any (al := al) (ac := ac) HO.out.2.2 HF.out.1 (HR.out.2.2.2.2.2.1.fr (HT.out.2.2.2.comp HF.out.2) (fun _ q => q)) (fun j hj => lawA.fr (HR.out.2.2.2.2.2.2 j hj) (HT.out.2.2.2.comp HF.out.2) (fun _ q => q)) (RowS.fr HT.out.2.1 HF.out.2 (fun _ q => q)) (by have := HE.out.2; omega)
      rw [HN.out.2.2.1] at hal
      refine hal.mono ?_
      rintro e w8 ⟨rfl, h8, f8⟩
      have H8 := Lib.hid (And.intro h8 (HT.out.2.2.2.comp (HF.out.2.comp f8)))
      clear h8 f8 hal t5 t7 tl
      go_wp2
      go_end0
      exact ⟨rfl, by rw [← HRR.out, HE.out.1]; exact H8.out.1, H8.out.2⟩
theorem sc_all : ∀ (m : Nat) (e : TE), szE e ≤ m → ScOk cons e := by
  intro m
  induction m with
  | zero =>
    intro e he
    cases e with
    | mk k nm fl bi ps ks bs al =>
      have e1 : szE (.mk k nm fl bi ps ks bs al) = 1 + szK ks + szB bs + szA al := rfl
      omega
  | succ m ih =>
    intro e he
    cases e with
    | mk k nm fl bi ps ks bs al =>
      have e1 : szE (.mk k nm fl bi ps ks bs al) = 1 + szK ks + szB bs + szA al := rfl
      have hK : ∀ e ∈ ks, ScOk cons e := fun e h => ih e (by have := mem_szK h; omega)
      have hB : ∀ b ∈ bs, ScOk cons b.body := fun b h => ih b.body (by have := mem_szB h; omega)
      have hA : ∀ b ∈ al, ScOk cons b.body := fun b h => ih b.body (by have := mem_szA h; omega)
      by_cases h1 : k = 1
      · subst h1; exact sc_var hK hB hA
      by_cases h2 : k = 2
      · subst h2; exact sc_con hK hB hA
      by_cases h6 : k = 6
      · subst h6; exact sc_let hK hB hA
      by_cases h8 : k = 8
      · subst h8; exact sc_lam hK hB hA
      exact sc_else h1 h2 h6 h8 hK hB hA
end


section
variable {X : Nat → Prop} {w : World} {m : TM} {c1 : Option Addr} {c2 : Nat} {bv : Value}
set_option maxRecDepth 100000 in
theorem rcons_any {b1 : Option Addr} {nb b2 nc : Nat} (hc : DeclsAt X w (.slice c1 nc c2) m.cons) (hnc : m.cons.length = nc) (hl9 : m.cons.length ≤ 100000) :
    Calls Tryz.prog 11 #[.agg #[.slice c1 nc c2, .slice b1 nb b2]] w fun r w' => ∃ v, r = .returned v ∧ w'.ownsRow w.heap.size 36 2 v (fullD m).length (flatN (fullD m)) ∧ Fr Nil w w' := by
  obtain ⟨i0, hi, hz0, hz1, hz2⟩ := info_parts infoD
  have hfl : (fullD m).length = 4 + nc := by simp [fullD, hnc]; omega
  have HV := Lib.hid (And.intro hc (And.intro hnc hfl))
  rw [hnc] at hl9
  clear hc hnc hfl
  go_enter Tryz.func11, Tryz.ntmps11
  go_wp2_with (first
    | (at_builtin; refine wpList_append_src rfl (.tmp 9) (.tmp 11) 23 rfl w.heap.size 36 i0 (.agg #[.string ⟨#[]⟩, .int .i64 0]) 2 24 Tryz.underlying23 hi hz0 hz1 hz2 rfl (by decide) (.slice (some ⟨w.heap.size + 1, 0, none⟩) 4 4) 4 (flatN [(falseN, 0), (trueN, 0), (nothN, 0), (justN, 1)]) rfl (owns_four (by (unfold Blk; simp (disch := first | omega | (simp; done) | (simp; omega)) only [hp_drew, hp_drewN, hp_alloc, hp_other, hp_same, hp_new, upd_cells, Option.map_some])) (by omega)) c1 nc c2 (flatN m.cons) rfl (DeclsAt.src (RowC.fr HV.out.1 (S := Nil) (by (repeat (first | (with_reducible exact Fr.refl _ _) | (with_reducible assumption) | (with_reducible exact Fr.of_nil (by assumption)) | (with_reducible refine Fr.drew ?_) | (with_reducible refine Fr.drewN ?_ _) | (with_reducible refine Fr.alloc ?_ _) | (with_reducible refine Fr.set ?_ _ _ (by first | (intros; omega) | (simp; done) | (simp; omega))) | (with_reducible refine Fr.via ?_ (by assumption)) | (with_reducible refine Fr.comp ?_ (by assumption))))) (fun _ q => q.elim)) HV.out.2.1) flatN_one (by unfold maxLen; omega) (by omega) (by simp; omega) ?_; intro u1 w1 hown1 g1 hk1; have H1 := Lib.hid (And.intro hown1 g1); clear hown1 g1 hk1)
    | fail)
  have hf : Fr Nil w w1 := Fr.grown (S := Nil) (w := w) (by (repeat (first | (with_reducible exact Fr.refl _ _) | (with_reducible assumption) | (with_reducible exact Fr.of_nil (by assumption)) | (with_reducible refine Fr.drew ?_) | (with_reducible refine Fr.drewN ?_ _) | (with_reducible refine Fr.alloc ?_ _) | (with_reducible refine Fr.set ?_ _ _ (by first | (intros; omega) | (simp; done) | (simp; omega))) | (with_reducible refine Fr.via ?_ (by assumption)) | (with_reducible refine Fr.comp ?_ (by assumption))))) H1.out.2 (fun k q hk => by
    have e : some (w.heap.size + 1) = some k := q
    injection e with e
    omega)
  have ho : w1.ownsRow w.heap.size 36 2 u1 (fullD m).length (flatN (fullD m)) := by
    have h := H1.out.1
    rw [HV.out.2.2]
    unfold fullD
    rw [flatN_app]
    exact h
  have HF := Lib.hid (And.intro ho hf)
  obtain ⟨ua, uc, rfl⟩ := owns_shape ho
  clear ho hf
  go_ret
  exact ⟨_, rfl, HF.out.1, HF.out.2⟩
set_option maxRecDepth 100000 in
set_option maxHeartbeats 8000000 in
theorem rcheck_any {b1 : Option Addr} {nb b2 nc : Nat} (hm : ModV X w c1 nc c2 b1 nb b2 m) (hl9 : m.cons.length ≤ 100000) (hl8 : m.binds.length + wnB m.binds ≤ 900000) :
    Calls Tryz.prog 9 #[.agg #[.slice c1 nc c2, .slice b1 nb b2]] w fun r w' => r = .returned (.tuple #[.int .i64 ((chkF m).1 : Int), .string ⟨(chkF m).2.toArray⟩]) ∧ Fr Nil w w' := by
  obtain ⟨i0, hi, hz0, hz1, hz2⟩ := info_parts infoS
  have hm := hm.mono (Y := fun b => w.heap.size ≤ b) (fun b h1 h2 => by omega)
  obtain ⟨⟨RE, RN⟩, hR⟩ : ∃ R, chkF m = R := ⟨_, rfl⟩
  rw [hR]
  have hcl : (consN m).length = 4 + nc := by simp [consN, hm.2.1]; omega
  have hfl : (fullD m).length = 4 + nc := by simp [fullD, hm.2.1]; omega
  have hnc9 : nc ≤ 100000 := by have := hm.2.1; omega
  have hnb9 : nb ≤ 900000 := by have := hm.2.2.2; omega
  have HM := Lib.hid (And.intro hm (And.intro hl9 (And.intro hl8 (And.intro hR (And.intro hcl hfl)))))
  clear hm hl9 hl8 hR hcl hfl
  obtain ⟨T, hT⟩ : ∃ T, w.heap.size = T := ⟨_, rfl⟩
  go_enter Tryz.func9, Tryz.ntmps9
  go_wp2_with fail
  obtain ⟨W1, hW1⟩ : ∃ W1, (w.alloc (.cells #[.slice c1 nc c2, .slice b1 nb b2] 26)).alloc (.cells #[.int .i64 0, .string ⟨#[]⟩, .slice none 0 0] 81) = W1 := ⟨_, rfl⟩
  rw [hW1]
  have f1 : Fr Nil w W1 := by rw [← hW1]; (repeat (first | (with_reducible exact Fr.refl _ _) | (with_reducible assumption) | (with_reducible exact Fr.of_nil (by assumption)) | (with_reducible refine Fr.drew ?_) | (with_reducible refine Fr.drewN ?_ _) | (with_reducible refine Fr.alloc ?_ _) | (with_reducible refine Fr.set ?_ _ _ (by first | (intros; omega) | (simp; done) | (simp; omega))) | (with_reducible refine Fr.via ?_ (by assumption)) | (with_reducible refine Fr.comp ?_ (by assumption))))
  have bm1 : Blk W1 T #[.slice c1 nc c2, .slice b1 nb b2] 26 := by rw [← hW1]; (unfold Blk; simp (disch := first | omega | (simp; done) | (simp; omega)) only [hp_drew, hp_drewN, hp_alloc, hp_other, hp_same, hp_new, upd_cells, Option.map_some])
  have bs1 : Blk W1 (T + 1) #[.int .i64 0, .string ⟨#[]⟩, .slice none 0 0] 81 := by rw [← hW1]; (unfold Blk; simp (disch := first | omega | (simp; done) | (simp; omega)) only [hp_drew, hp_drewN, hp_alloc, hp_other, hp_same, hp_new, upd_cells, Option.map_some])
  have sz1 : W1.heap.size = T + 2 := by rw [← hW1]; simp [hT]
  have H1 := Lib.hid (And.intro f1 (And.intro bm1 (And.intro bs1 sz1)))
  clear hW1 f1 bm1 bs1 sz1
  refine (rcons_any (X := fun b => w.heap.size ≤ b) (RowC.fr HM.out.1.1 H1.out.1 (fun _ q => q.elim)) HM.out.1.2.1 HM.out.2.1).mono ?_
  rintro e w2 ⟨v2, rfl, own2, f2⟩
  have hd2 : DeclsAt (fun b => b = T + 1) w2 v2 (fullD m) := DeclsAt.of_own own2 (fun b q => by have := H1.out.2.2.2; omega)
  obtain ⟨da, dc, rfl⟩ := owns_shape own2
  have bs2 := f2.blk H1.out.2.2.1 (fun q => q)
  have bm2 := f2.blk H1.out.2.1 (fun q => q)
  have hs2 := f2.size
  rw [HM.out.2.2.2.2.2] at hd2 ⊢
  have H2 := Lib.hid (And.intro hd2 (And.intro bs2 (And.intro bm2 (And.intro (H1.out.1.comp f2) (show T + 2 ≤ w2.heap.size by have := H1.out.2.2.2; omega)))))
  clear own2 f2 hd2 bs2 bm2 hs2
  go_wp2_with fail
  go_loopg [6] (4 + nc) (fun g iv wr => ∃ (k : Nat) (u : Value), g = 4 + nc - k ∧ k ≤ 4 + nc ∧ iv = .int .i64 (k : Int) ∧ Hid (Blk wr (T + 1) #[.int .i64 0, .string ⟨#[]⟩, u] 81 ∧ wr.ownsRow w2.heap.size 9 1 u k (strC ((consN m).take k)) ∧ Fr (fun b => b = T + 1) w2 wr))
  case atStart => exact ⟨0, _, rfl, by omega, rfl, Lib.hid ⟨H2.out.2.1, by simpa [strC] using World.ownsRow_nil _ _ _ _, Fr.refl _ _⟩⟩
  case round =>
    obtain ⟨k, u, rfl, hk, rfl, HS⟩ := hrel
    have j0 : (0 : Int) ≤ (k : Int) := by omega
    have hsz := HS.out.2.2.size
    have s0 := HS.out.1.cell 2
    simp at s0
    have sl := HS.out.1.lt
    have sf := HS.out.1.free
    by_cases hlt : k < 4 + nc
    · have hkD : k < (fullD m).length := by rw [HM.out.2.2.2.2.2]; exact hlt
      have hkC : k < (consN m).length := by rw [HM.out.2.2.2.2.1]; exact hlt
      have wk : IntKind.i64.wrap ((k : Int) + 1) = (k : Int) + 1 := by rw [IntKind.wrap_i64]; omega
      have j1 : (k : Int) < ((4 + nc : Nat) : Int) := by omega
      obtain ⟨db, doff, e, hdb, p0, _⟩ := DeclsAt.cell (RowC.fr H2.out.1 HS.out.2.2 (fun _ q => q)) k hkD
      subst e
      obtain ⟨x, hx⟩ : ∃ x, (consN m)[k] = x := ⟨_, rfl⟩
      have ex : (fullD m)[k].1 = x := by
        have h1 := congrArg (fun z => z[k]?) (fullD_names m)
        simp only [List.getElem?_map, List.getElem?_eq_getElem hkD, List.getElem?_eq_getElem hkC, Option.map_some] at h1
        injection h1 with h1
        rw [h1, hx]
      rw [ex] at p0
      have HX := Lib.hid hx
      have hdl : db < wr.heap.size := World.block_lt_of_cell? _ _ p0
      clear hx ex
      go_upto_region 6 with fail
      have hso := HS.out.2.1.lt
      go_region_law (first
        | (refine step_push (w := wr.drew) rfl (.tmp 22) (.tmp 28) 43 rfl w2.heap.size 9 i0 (.string ⟨#[]⟩) 1 16 Tryz.underlying43 hi hz0 hz1 hz2 rfl (by decide) u k (strC ((consN m).take k)) (by simp [Act.eval, Act.put]) (owns_fr HS.out.2.1 (Fr.drew (Fr.refl Nil wr))) [.string ⟨x.toArray⟩] (by simp [Act.eval, Act.put]) rfl (by simp [Value.oneCell']) (by unfold maxLen; omega) (by omega) hsz ?_; intro v' w3 hown3 f3 hk3; obtain ⟨g', cap', rfl⟩ := ownsRow_succ hown3; have b3 := f3.blk (Blk.drew HS.out.1) (fun q => by have := (hso _ q).1; have := H2.out.2.2.2.2; omega); have s3 := b3.cell 2; simp at s3; have sl3 := b3.lt; have sf3 := b3.free; have HO3 := Lib.hid (And.intro hown3 (And.intro f3 b3)); clear hown3 f3 hk3 b3))
      all_goals
        go_wp2
        have hso3 := HO3.out.1.lt
        have hs22 := H2.out.2.2.2.2
        have fz : Fr (fun b => b = T + 1) w2 (w3.setCell ⟨T + 1, 2, none⟩ (.slice (some ⟨g', 0, none⟩) (k + 1) cap')) := (Fr.trans (S := fun b => b = T + 1) (w1 := w3) (Fr.trans (S := fun b => b = T + 1) (w1 := wr.drew) HS.out.2.2.drew HO3.out.2.1 (fun q hq e => by have := (hso q e).1; omega)) (Fr.set (S := fun b => b = T + 1) (Fr.refl _ _) _ _ (fun _ => rfl)) (fun _ _ q => q))
        go_roundg (4 + nc - (k + 1))
        case rel =>
          refine ⟨k + 1, _, rfl, by omega, by simp, Lib.hid ⟨HO3.out.2.2.put rfl, ?_, fz⟩⟩
          rw [List.take_succ_eq_append_getElem hkC, HX.out, strC_snoc]
          exact owns_frS HO3.out.1 (Fr.set (S := fun b => b = T + 1) (Fr.refl _ _) ⟨T + 1, 2, none⟩ _ (fun _ => rfl)) (fun q e e2 => by have := (hso3 q e).1; have e3 : q = T + 1 := e2; omega)
        case measure => omega
    · have j1 : ¬ (k : Int) < ((4 + nc : Nat) : Int) := by omega
      have ek : k = 4 + nc := by omega
      obtain ⟨s1, hs1⟩ : ∃ s1, twF (consN m) (0, []) = s1 := ⟨_, rfl⟩
      obtain ⟨s2, hs2⟩ : ∃ s2, twF (nmB m.binds) s1 = s2 := ⟨_, rfl⟩
      obtain ⟨s3, hs3⟩ : ∃ s3, (if mainN ∈ nmB m.binds then s2 else fltS s2 10 mainN) = s3 := ⟨_, rfl⟩
      have hres : scB (consN m) m.binds (nmB m.binds) s3 = (RE, RN) := by
        rw [← HM.out.2.2.2.1, ← hs3, ← hs2, ← hs1]
        rfl
      have hnm : (nmB m.binds).length = nb := by simp [nmB, HM.out.1.2.2.2]
      have hown : wr.ownsRow w2.heap.size 9 1 u (consN m).length (strC (consN m)) := by
        have h := HS.out.2.1
        rw [ek, List.take_of_length_le (by rw [HM.out.2.2.2.2.1]; exact Nat.le_refl _)] at h
        rw [HM.out.2.2.2.2.1]
        exact h
      obtain ⟨ua, uc, eu⟩ := owns_shape hown
      subst eu
      have hs22 := H2.out.2.2.2.2
      have hcr : RowS (fun b => b = T + 1) wr (.slice ua (consN m).length uc) (consN m) := RowS.of_own hown (fun b q => by omega)
      have hsa : SAt wr (T + 1) (consN m) (0, []) := ⟨_, HS.out.1, hcr⟩
      have hF2 : Fr (fun b => b = T + 1) w wr := (Fr.of_nil H2.out.2.2.2.1).comp HS.out.2.2
      have hbm := HS.out.2.2.blk H2.out.2.2.1 (show ¬ (fun b => b = T + 1) T by simp)
      have HN := Lib.hid (And.intro hs1 (And.intro hs2 (And.intro hs3 (And.intro hres hnm))))
      have H3 := Lib.hid (And.intro hsa (And.intro hcr (And.intro hF2 hbm)))
      have hmn : ∀ w', Fr (fun b => b = T + 1) w w' → ModV (fun b => w.heap.size ≤ b) w' c1 nc c2 b1 nb b2 m := fun w' f => HM.out.1.fr f (fun b q => by omega)
      have HMN := Lib.hid hmn
      rw [HM.out.2.2.2.2.1] at s0
      clear HS hs1 hs2 hs3 hres hnm hown hcr hsa hF2 hbm hmn hlt hk
      subst ek
      go_wp2_with fail
      have htw := ztwice_any H3.out.1 H3.out.2.1 (by rw [HM.out.2.2.2.2.1]; omega)
      rw [HM.out.2.2.2.2.1] at htw
      refine htw.mono ?_
      rintro e w3 ⟨rfl, h3, f3⟩
      rw [HN.out.1] at h3
      have b3 := f3.blk H3.out.2.2.2 (show ¬ (fun b => b = T + 1) T by simp)
      have t1 := b3.cell 1
      simp at t1
      have tl := b3.lt
      have H4 := Lib.hid (And.intro h3 (And.intro (H3.out.2.2.1.comp f3) b3))
      clear h3 f3 b3 htw s0 sl sf
      go_wp2_with fail
      refine (names10_any (HMN.out _ H4.out.2.1).2.2.1 (by have := HM.out.2.2.1; omega)).mono ?_
      rintro e w4 ⟨v4, rfl, own4, f4⟩
      obtain ⟨ga, gc, rfl⟩ := owns_shape own4
      have hsz3 := H4.out.1.lt
      have r4 : RowS (fun b => b = T + 1) w4 (.slice ga nb gc) (nmB m.binds) := by
        have h : RowS (fun b => b = T + 1) w4 _ (nmB m.binds) := RowC.mono (owns_row own4) (by decide) (fun b _ q => by have q' : b = T + 1 := q; omega)
        rw [HN.out.2.2.2.2] at h
        exact h
      rw [HN.out.2.2.2.2]
      have H5 := Lib.hid (And.intro (H4.out.1.fr f4) (And.intro r4 (And.intro (H4.out.2.1.comp (Fr.of_nil (S := fun b => b = T + 1) f4)) (f4.blk H4.out.2.2 (fun q => q)))))
      clear own4 f4 r4 t1 tl
      go_wp2_with fail
      refine (ztwice_any H5.out.1 H5.out.2.1 (by rw [HN.out.2.2.2.2]; omega)).mono ?_
      rintro e w5 ⟨rfl, h5, f5⟩
      rw [HN.out.2.1] at h5
      have H6 := Lib.hid (And.intro h5 (And.intro (RowS.fr H5.out.2.1 f5 (fun _ q => q)) (And.intro (H5.out.2.2.1.comp f5) (f5.blk H5.out.2.2.2 (show ¬ (fun b => b = T + 1) T by simp)))))
      clear h5 f5
      go_wp2_with fail
      have hin := in_any mainN H6.out.2.1
      by_cases hmain : mainN ∈ nmB m.binds
      · rw [decide_eq_true hmain] at hin
        have hs3 := HN.out.2.2.1
        rw [if_pos hmain] at hs3
        have HS3 := Lib.hid hs3
        clear hmain hs3
        refine hin.mono ?_
        rintro e w6 ⟨rfl, f6⟩
        have H7 := Lib.hid (And.intro (show SAt w6 (T + 1) (consN m) s3 by rw [← HS3.out]; exact H6.out.1.fr f6) (And.intro (RowS.fr H6.out.2.1 f6 (fun _ q => q.elim)) (And.intro (H6.out.2.2.1.comp (Fr.of_nil (S := fun b => b = T + 1) f6)) (f6.blk H6.out.2.2.2 (fun q => q)))))
        clear f6 hin
        have t1 := H7.out.2.2.2.cell 1
        simp at t1
        have tl := H7.out.2.2.2.lt
        go_wp2_with fail
        obtain ⟨cs, hb1, hb2⟩ := (HMN.out _ H7.out.2.2.1).2.2.1
        have hbd := sbinds_any (bs := m.binds) (bc := cs) (fun b _ => sc_all (szE b.body) b.body (Nat.le_refl _)) H7.out.1 (RowC.mono (Y := fun b => b = T + 1) (by rw [HM.out.1.2.2.2]; exact (by rw [HM.out.1.2.2.2] at hb1; exact hb1)) (by decide) (fun b _ q => by omega)) (fun j hj => lawB.mono (hb2 j hj) (fun b _ q => by omega)) H7.out.2.1 (by rw [HN.out.2.2.2.2]; have := HM.out.1.2.2.2; have := HM.out.2.2.1; omega)
        rw [HN.out.2.2.2.1] at hbd
        refine hbd.mono ?_
        rintro e w7 ⟨rfl, h7, f7⟩
        have H8 := Lib.hid (H7.out.2.2.1.comp f7)
        obtain ⟨cv, hb7, _⟩ := h7.b
        have z0 := hb7.cell 0
        have z1 := hb7.cell 1
        simp at z0 z1
        have zl := hb7.lt
        clear hbd hb1 hb2 t1 tl h7 f7 hb7
        go_wp2_with fail
        go_quiet (fail)
        go_wp2
        (try simp only [Exit.inBlock, Exit.then])
        refine bodyPost_ret (v := .tuple #[.int .i64 (RE : Int), .string ⟨RN.toArray⟩]) (by simp [results, Tryz.results9, go_sem, *]) rfl ?_
        exact ⟨rfl, (H8.out.comp (by (repeat (first | (with_reducible exact Fr.refl _ _) | (with_reducible assumption) | (with_reducible exact Fr.of_nil (by assumption)) | (with_reducible refine Fr.drew ?_) | (with_reducible refine Fr.drewN ?_ _) | (with_reducible refine Fr.alloc ?_ _) | (with_reducible refine Fr.set ?_ _ _ (by first | (intro _; exact rfl) | (intro _; exact .inl rfl) | (intro _; exact .inr rfl) | (intro q; exact absurd q (Nat.lt_irrefl _)) | (intro q; simp at q; omega))) | (with_reducible refine Fr.via ?_ (by assumption)) | (with_reducible refine Fr.comp ?_ (by assumption)))))).mono (fun b hb q => by omega)⟩
      · rw [decide_eq_false hmain] at hin
        have hs3 := HN.out.2.2.1
        rw [if_neg hmain] at hs3
        have HS3 := Lib.hid hs3
        clear hmain hs3
        refine hin.mono ?_
        rintro e w55 ⟨rfl, f55⟩
        have H66 := Lib.hid (And.intro (H6.out.1.fr f55) f55)
        clear f55 hin
        go_wp2_with fail
        refine (fault_any H66.out.1 10 mainN).mono ?_
        rintro e w6 ⟨rfl, h6, f6⟩
        rw [HS3.out] at h6
        have f6' : Fr (fun b => b = T + 1) w5 w6 := (Fr.of_nil (S := fun b => b = T + 1) H66.out.2).comp f6
        have H7 := Lib.hid (And.intro h6 (And.intro (RowS.fr H6.out.2.1 f6' (fun _ q => q)) (And.intro (H6.out.2.2.1.comp f6') (f6'.blk H6.out.2.2.2 (show ¬ (fun b => b = T + 1) T by simp)))))
        clear h6 f6 f6'
        have t1 := H7.out.2.2.2.cell 1
        simp at t1
        have tl := H7.out.2.2.2.lt
        go_wp2_with fail
        obtain ⟨cs, hb1, hb2⟩ := (HMN.out _ H7.out.2.2.1).2.2.1
        have hbd := sbinds_any (bs := m.binds) (bc := cs) (fun b _ => sc_all (szE b.body) b.body (Nat.le_refl _)) H7.out.1 (RowC.mono (Y := fun b => b = T + 1) (by rw [HM.out.1.2.2.2]; exact (by rw [HM.out.1.2.2.2] at hb1; exact hb1)) (by decide) (fun b _ q => by omega)) (fun j hj => lawB.mono (hb2 j hj) (fun b _ q => by omega)) H7.out.2.1 (by rw [HN.out.2.2.2.2]; have := HM.out.1.2.2.2; have := HM.out.2.2.1; omega)
        rw [HN.out.2.2.2.1] at hbd
        refine hbd.mono ?_
        rintro e w7 ⟨rfl, h7, f7⟩
        have H8 := Lib.hid (H7.out.2.2.1.comp f7)
        obtain ⟨cv, hb7, _⟩ := h7.b
        have z0 := hb7.cell 0
        have z1 := hb7.cell 1
        simp at z0 z1
        have zl := hb7.lt
        clear hbd hb1 hb2 t1 tl h7 f7 hb7
        go_wp2_with fail
        go_quiet (fail)
        go_wp2
        (try simp only [Exit.inBlock, Exit.then])
        refine bodyPost_ret (v := .tuple #[.int .i64 (RE : Int), .string ⟨RN.toArray⟩]) (by simp [results, Tryz.results9, go_sem, *]) rfl ?_
        exact ⟨rfl, (H8.out.comp (by (repeat (first | (with_reducible exact Fr.refl _ _) | (with_reducible assumption) | (with_reducible exact Fr.of_nil (by assumption)) | (with_reducible refine Fr.drew ?_) | (with_reducible refine Fr.drewN ?_ _) | (with_reducible refine Fr.alloc ?_ _) | (with_reducible refine Fr.set ?_ _ _ (by first | (intro _; exact rfl) | (intro _; exact .inl rfl) | (intro _; exact .inr rfl) | (intro q; exact absurd q (Nat.lt_irrefl _)) | (intro q; simp at q; omega))) | (with_reducible refine Fr.via ?_ (by assumption)) | (with_reducible refine Fr.comp ?_ (by assumption)))))).mono (fun b hb q => by omega)⟩
end

end Go.Proofs.YtpjlibbdngnnnaaGreatDoor
