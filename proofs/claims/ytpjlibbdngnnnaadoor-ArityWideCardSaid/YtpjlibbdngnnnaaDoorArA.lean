/-
  Arity (layer 11): how many kids an operation takes; the checker's state; a fault, unless it is so. No conditions.
  Arity (layer 11): the program's checker at binds, at every expression. Conditions: a tree as a source tells it.
-/
import Derived.Test.YtpjlibbdngnnnaaDoorSpY
import Derived.Test.YtpjlibbdngnnnaaDoorMapLit
import Derived.Deep.CutBlock
import Derived.Deep.RegionHeld3
import Derived.BigQuiet
namespace Go.Proofs.YtpjlibbdngnnnaaDoor
set_option linter.unusedSimpArgs false
set_option linter.unusedVariables false
open Go.RowKit

def takeMap : List (List UInt8 × Int) := [([43], 2), ([45], 2), ([42], 2), ([47], 2), ([37], 2), ([61, 61], 2), ([60], 2), ([43, 46], 2), ([45, 46], 2), ([42, 46], 2), ([47, 46], 2), ([61, 61, 46], 2), ([60, 46], 2), ([119, 101, 97, 107], 3), ([115, 101, 113], 2), ([100, 101, 114, 101, 102], 1), ([102, 108, 111, 97, 116], 1), ([116, 114, 117, 110, 99], 1)]
def takeM (k : Nat) : List (List UInt8 × Int) := takeMap.take k
/-- How many kids an operation takes. -/
def takesF (n : List UInt8) : Int := (askL takeMap n).getD 0
theorem zeroInt : (zeroValue 3).run Tryd.prog = fun w => .ok (.int .i64 0) w := by kernel_rfl
theorem takes_rng (n : List UInt8) : 0 ≤ takesF n ∧ takesF n ≤ 3 := by
  unfold takesF askL
  cases h : takeMap.find? (fun p => p.1 == n) with
  | none => simp
  | some p =>
    have hm := List.mem_of_find?_eq_some h
    have key : ∀ p ∈ takeMap, 0 ≤ p.2 ∧ p.2 ≤ 3 := by decide
    exact key p hm
set_option maxRecDepth 100000 in
set_option maxHeartbeats 2000000 in
theorem takes_any (n : List UInt8) (w : World) :
    Calls Tryd.prog 35 #[.string ⟨n.toArray⟩] w fun e w' => e = .returned (.int .i64 (takesF n)) ∧ Fr Nil w w' := by
  have m0 : ∀ w : World, (Instr.makeMap 61 none).run Tryd.prog w = .ok (.map (some w.heap.size)) (w.alloc (.map (ents (takeM 0)) 0)) := fun w => run_makeMap_plain w _
  have m1 : (Instr.mapUpdate 61 (.map (some w.heap.size)) (.string ⟨#[43]⟩) (.int .i64 2)).run Tryd.prog (w.alloc (.map (ents (takeM 0)) 0)) = .ok () (w.alloc (.map (ents (takeM 1)) 1)) := run_ins w _ _ _ Tryd.underlying61 Tryd.underlying9 (takeM 0) [43] 2 (by decide) (takeM 1) (by decide) 0 (by decide)
  have m2 : (Instr.mapUpdate 61 (.map (some w.heap.size)) (.string ⟨#[45]⟩) (.int .i64 2)).run Tryd.prog (w.alloc (.map (ents (takeM 1)) 1)) = .ok () (w.alloc (.map (ents (takeM 2)) 2)) := run_ins w _ _ _ Tryd.underlying61 Tryd.underlying9 (takeM 1) [45] 2 (by decide) (takeM 2) (by decide) 1 (by decide)
  have m3 : (Instr.mapUpdate 61 (.map (some w.heap.size)) (.string ⟨#[42]⟩) (.int .i64 2)).run Tryd.prog (w.alloc (.map (ents (takeM 2)) 2)) = .ok () (w.alloc (.map (ents (takeM 3)) 3)) := run_ins w _ _ _ Tryd.underlying61 Tryd.underlying9 (takeM 2) [42] 2 (by decide) (takeM 3) (by decide) 2 (by decide)
  have m4 : (Instr.mapUpdate 61 (.map (some w.heap.size)) (.string ⟨#[47]⟩) (.int .i64 2)).run Tryd.prog (w.alloc (.map (ents (takeM 3)) 3)) = .ok () (w.alloc (.map (ents (takeM 4)) 4)) := run_ins w _ _ _ Tryd.underlying61 Tryd.underlying9 (takeM 3) [47] 2 (by decide) (takeM 4) (by decide) 3 (by decide)
  have m5 : (Instr.mapUpdate 61 (.map (some w.heap.size)) (.string ⟨#[37]⟩) (.int .i64 2)).run Tryd.prog (w.alloc (.map (ents (takeM 4)) 4)) = .ok () (w.alloc (.map (ents (takeM 5)) 5)) := run_ins w _ _ _ Tryd.underlying61 Tryd.underlying9 (takeM 4) [37] 2 (by decide) (takeM 5) (by decide) 4 (by decide)
  have m6 : (Instr.mapUpdate 61 (.map (some w.heap.size)) (.string ⟨#[61, 61]⟩) (.int .i64 2)).run Tryd.prog (w.alloc (.map (ents (takeM 5)) 5)) = .ok () (w.alloc (.map (ents (takeM 6)) 6)) := run_ins w _ _ _ Tryd.underlying61 Tryd.underlying9 (takeM 5) [61, 61] 2 (by decide) (takeM 6) (by decide) 5 (by decide)
  have m7 : (Instr.mapUpdate 61 (.map (some w.heap.size)) (.string ⟨#[60]⟩) (.int .i64 2)).run Tryd.prog (w.alloc (.map (ents (takeM 6)) 6)) = .ok () (w.alloc (.map (ents (takeM 7)) 7)) := run_ins w _ _ _ Tryd.underlying61 Tryd.underlying9 (takeM 6) [60] 2 (by decide) (takeM 7) (by decide) 6 (by decide)
  have m8 : (Instr.mapUpdate 61 (.map (some w.heap.size)) (.string ⟨#[43, 46]⟩) (.int .i64 2)).run Tryd.prog (w.alloc (.map (ents (takeM 7)) 7)) = .ok () (w.alloc (.map (ents (takeM 8)) 8)) := run_ins w _ _ _ Tryd.underlying61 Tryd.underlying9 (takeM 7) [43, 46] 2 (by decide) (takeM 8) (by decide) 7 (by decide)
  have m9 : (Instr.mapUpdate 61 (.map (some w.heap.size)) (.string ⟨#[45, 46]⟩) (.int .i64 2)).run Tryd.prog (w.alloc (.map (ents (takeM 8)) 8)) = .ok () (w.alloc (.map (ents (takeM 9)) 9)) := run_ins w _ _ _ Tryd.underlying61 Tryd.underlying9 (takeM 8) [45, 46] 2 (by decide) (takeM 9) (by decide) 8 (by decide)
  have m10 : (Instr.mapUpdate 61 (.map (some w.heap.size)) (.string ⟨#[42, 46]⟩) (.int .i64 2)).run Tryd.prog (w.alloc (.map (ents (takeM 9)) 9)) = .ok () (w.alloc (.map (ents (takeM 10)) 10)) := run_ins w _ _ _ Tryd.underlying61 Tryd.underlying9 (takeM 9) [42, 46] 2 (by decide) (takeM 10) (by decide) 9 (by decide)
  have m11 : (Instr.mapUpdate 61 (.map (some w.heap.size)) (.string ⟨#[47, 46]⟩) (.int .i64 2)).run Tryd.prog (w.alloc (.map (ents (takeM 10)) 10)) = .ok () (w.alloc (.map (ents (takeM 11)) 11)) := run_ins w _ _ _ Tryd.underlying61 Tryd.underlying9 (takeM 10) [47, 46] 2 (by decide) (takeM 11) (by decide) 10 (by decide)
  have m12 : (Instr.mapUpdate 61 (.map (some w.heap.size)) (.string ⟨#[61, 61, 46]⟩) (.int .i64 2)).run Tryd.prog (w.alloc (.map (ents (takeM 11)) 11)) = .ok () (w.alloc (.map (ents (takeM 12)) 12)) := run_ins w _ _ _ Tryd.underlying61 Tryd.underlying9 (takeM 11) [61, 61, 46] 2 (by decide) (takeM 12) (by decide) 11 (by decide)
  have m13 : (Instr.mapUpdate 61 (.map (some w.heap.size)) (.string ⟨#[60, 46]⟩) (.int .i64 2)).run Tryd.prog (w.alloc (.map (ents (takeM 12)) 12)) = .ok () (w.alloc (.map (ents (takeM 13)) 13)) := run_ins w _ _ _ Tryd.underlying61 Tryd.underlying9 (takeM 12) [60, 46] 2 (by decide) (takeM 13) (by decide) 12 (by decide)
  have m14 : (Instr.mapUpdate 61 (.map (some w.heap.size)) (.string ⟨#[119, 101, 97, 107]⟩) (.int .i64 3)).run Tryd.prog (w.alloc (.map (ents (takeM 13)) 13)) = .ok () (w.alloc (.map (ents (takeM 14)) 14)) := run_ins w _ _ _ Tryd.underlying61 Tryd.underlying9 (takeM 13) [119, 101, 97, 107] 3 (by decide) (takeM 14) (by decide) 13 (by decide)
  have m15 : (Instr.mapUpdate 61 (.map (some w.heap.size)) (.string ⟨#[115, 101, 113]⟩) (.int .i64 2)).run Tryd.prog (w.alloc (.map (ents (takeM 14)) 14)) = .ok () (w.alloc (.map (ents (takeM 15)) 15)) := run_ins w _ _ _ Tryd.underlying61 Tryd.underlying9 (takeM 14) [115, 101, 113] 2 (by decide) (takeM 15) (by decide) 14 (by decide)
  have m16 : (Instr.mapUpdate 61 (.map (some w.heap.size)) (.string ⟨#[100, 101, 114, 101, 102]⟩) (.int .i64 1)).run Tryd.prog (w.alloc (.map (ents (takeM 15)) 15)) = .ok () (w.alloc (.map (ents (takeM 16)) 16)) := run_ins w _ _ _ Tryd.underlying61 Tryd.underlying9 (takeM 15) [100, 101, 114, 101, 102] 1 (by decide) (takeM 16) (by decide) 15 (by decide)
  have m17 : (Instr.mapUpdate 61 (.map (some w.heap.size)) (.string ⟨#[102, 108, 111, 97, 116]⟩) (.int .i64 1)).run Tryd.prog (w.alloc (.map (ents (takeM 16)) 16)) = .ok () (w.alloc (.map (ents (takeM 17)) 17)) := run_ins w _ _ _ Tryd.underlying61 Tryd.underlying9 (takeM 16) [102, 108, 111, 97, 116] 1 (by decide) (takeM 17) (by decide) 16 (by decide)
  have m18 : (Instr.mapUpdate 61 (.map (some w.heap.size)) (.string ⟨#[116, 114, 117, 110, 99]⟩) (.int .i64 1)).run Tryd.prog (w.alloc (.map (ents (takeM 17)) 17)) = .ok () (w.alloc (.map (ents (takeM 18)) 18)) := run_ins w _ _ _ Tryd.underlying61 Tryd.underlying9 (takeM 17) [116, 114, 117, 110, 99] 1 (by decide) (takeM 18) (by decide) 17 (by decide)
  have mL := run_look w _ _ _ Tryd.underlying61 Tryd.underlying9 zeroInt (takeM 18) 18 ⟨n.toArray⟩
  rw [show (askL (takeM 18) (ByteArray.mk n.toArray).data.toList).getD 0 = takesF n from rfl] at mL
  go_enter Tryd.func35, Tryd.ntmps35
  go_wp2
  go_ret
  exact ⟨rfl, by (repeat (first | (with_reducible exact Fr.refl _ _) | (with_reducible assumption) | (with_reducible exact Fr.of_nil (by assumption)) | (with_reducible refine Fr.drew ?_) | (with_reducible refine Fr.drewN ?_ _) | (with_reducible refine Fr.alloc ?_ _) | (with_reducible refine Fr.set ?_ _ _ (by first | (intros; omega) | (simp; done) | (simp; omega))) | (with_reducible refine Fr.via ?_ (by assumption)) | (with_reducible refine Fr.comp ?_ (by assumption))))⟩
/-- The checker's state: what constructors take; the first fault. -/
def KAt (w : World) (cb : Nat) (cm : List UInt8 → Int) (s : FS) : Prop := ∃ mc K, Blk w cb #[.map (some mc), .int .i64 (s.1 : Int), .string ⟨s.2.toArray⟩] 83 ∧ SMap w mc K cm
theorem KAt.fr {w w' : World} {cb : Nat} {cm : List UInt8 → Int} {s : FS} (h : KAt w cb cm s) (f : Fr Nil w w') : KAt w' cb cm s := by
  obtain ⟨mc, K, h1, h2⟩ := h
  exact ⟨mc, K, f.blk h1 (fun q => q), h2.fr f (fun q => q)⟩
theorem KAt.lt {w : World} {cb : Nat} {cm : List UInt8 → Int} {s : FS} (h : KAt w cb cm s) : cb < w.heap.size := by
  obtain ⟨mc, K, h1, h2⟩ := h
  exact h1.lt
/-- A fault, unless it is so. -/
def askF (ok : Bool) (s : FS) (e : Nat) (n : List UInt8) : FS := if ok then s else fltS s e n
set_option maxRecDepth 100000 in
theorem ask_cell {w : World} {cb : Nat} {cm : List UInt8 → Int} {s : FS} (h : KAt w cb cm s) (ok : Bool) (e : Nat) (n : List UInt8) :
    Calls Tryd.prog 74 #[.pointer (some ⟨cb, 0, none⟩), .bool ok, .int .i64 (e : Int), .string ⟨n.toArray⟩] w fun r w' => r = .returned (.tuple #[]) ∧ KAt w' cb cm (askF ok s e n) ∧ Fr (fun b => b = cb) w w' ∧ w'.cell? ⟨cb, 0, none⟩ = w.cell? ⟨cb, 0, none⟩ := by
  obtain ⟨mc, K, h1, h2⟩ := h
  have c1 := h1.cell 1
  have c2 := h1.cell 2
  simp at c1 c2
  have cf := h1.free
  have cl := h1.lt
  have hne := h2.ne h1
  have HB := Lib.hid (And.intro h1 (And.intro h2 (show KAt w cb cm s from ⟨mc, K, h1, h2⟩)))
  clear h1 h2
  cases ok with
  | true =>
    go_enter Tryd.func74, Tryd.ntmps74
    go_wp2
    go_end0
    exact ⟨rfl, HB.out.2.2.fr (by (repeat (first | (with_reducible exact Fr.refl _ _) | (with_reducible assumption) | (with_reducible exact Fr.of_nil (by assumption)) | (with_reducible refine Fr.drew ?_) | (with_reducible refine Fr.drewN ?_ _) | (with_reducible refine Fr.alloc ?_ _) | (with_reducible refine Fr.set ?_ _ _ (by first | (intros; omega) | (simp; done) | (simp; omega))) | (with_reducible refine Fr.via ?_ (by assumption)) | (with_reducible refine Fr.comp ?_ (by assumption))))), by (repeat (first | (with_reducible exact Fr.refl _ _) | (with_reducible assumption) | (with_reducible exact Fr.of_nil (by assumption)) | (with_reducible refine Fr.drew ?_) | (with_reducible refine Fr.drewN ?_ _) | (with_reducible refine Fr.alloc ?_ _) | (with_reducible refine Fr.set ?_ _ _ (by first | (intro _; exact rfl) | (intro _; exact .inl rfl) | (intro _; exact .inr rfl) | (intro q; exact absurd q (Nat.lt_irrefl _)) | (intro q; simp at q; omega))) | (with_reducible refine Fr.via ?_ (by assumption)) | (with_reducible refine Fr.comp ?_ (by assumption)))), by simp⟩
  | false =>
    have e0 : askF false s e n = fltS s e n := rfl
    rw [e0]
    clear e0
    by_cases he : s.1 = 0
    · have e1 : fltS s e n = (e, n) := by unfold fltS; rw [if_pos he]
      rw [e1]
      have d1 : ((s.1 : Int) == 0) = true := by simp [he]
      clear he e1
      go_enter Tryd.func74, Tryd.ntmps74
      go_wp2
      go_end0
      have fz : Fr (fun b => b = cb) w ((w.setCell ⟨cb, 1, none⟩ (.int .i64 (e : Int))).setCell ⟨cb, 2, none⟩ (.string ⟨n.toArray⟩)) := by (repeat (first | (with_reducible exact Fr.refl _ _) | (with_reducible assumption) | (with_reducible exact Fr.of_nil (by assumption)) | (with_reducible refine Fr.drew ?_) | (with_reducible refine Fr.drewN ?_ _) | (with_reducible refine Fr.alloc ?_ _) | (with_reducible refine Fr.set ?_ _ _ (by first | (intro _; exact rfl) | (intro _; exact .inl rfl) | (intro _; exact .inr rfl) | (intro q; exact absurd q (Nat.lt_irrefl _)) | (intro q; simp at q; omega))) | (with_reducible refine Fr.via ?_ (by assumption)) | (with_reducible refine Fr.comp ?_ (by assumption))))
      have bz : Blk ((w.setCell ⟨cb, 1, none⟩ (.int .i64 (e : Int))).setCell ⟨cb, 2, none⟩ (.string ⟨n.toArray⟩)) cb #[.map (some mc), .int .i64 (e : Int), .string ⟨n.toArray⟩] 83 := by
        (unfold Blk; simp (disch := first | omega | (simp; done) | (simp; omega)) only [hp_drew, hp_drewN, hp_alloc, hp_other, hp_same, hp_new, upd_cells, Option.map_some, (HB.out.1).eq])
        simp
      exact ⟨rfl, ⟨mc, K, bz, HB.out.2.1.fr fz hne⟩, fz, by rw [bz.cell, HB.out.1.cell]; simp⟩
    · have e1 : fltS s e n = s := by unfold fltS; rw [if_neg he]
      rw [e1]
      have d1 : ((s.1 : Int) == 0) = false := beq_false_of_ne (by omega)
      clear he e1
      go_enter Tryd.func74, Tryd.ntmps74
      go_wp2
      go_end0
      exact ⟨rfl, HB.out.2.2.fr (by (repeat (first | (with_reducible exact Fr.refl _ _) | (with_reducible assumption) | (with_reducible exact Fr.of_nil (by assumption)) | (with_reducible refine Fr.drew ?_) | (with_reducible refine Fr.drewN ?_ _) | (with_reducible refine Fr.alloc ?_ _) | (with_reducible refine Fr.set ?_ _ _ (by first | (intros; omega) | (simp; done) | (simp; omega))) | (with_reducible refine Fr.via ?_ (by assumption)) | (with_reducible refine Fr.comp ?_ (by assumption))))), by (repeat (first | (with_reducible exact Fr.refl _ _) | (with_reducible assumption) | (with_reducible exact Fr.of_nil (by assumption)) | (with_reducible refine Fr.drew ?_) | (with_reducible refine Fr.drewN ?_ _) | (with_reducible refine Fr.alloc ?_ _) | (with_reducible refine Fr.set ?_ _ _ (by first | (intro _; exact rfl) | (intro _; exact .inl rfl) | (intro _; exact .inr rfl) | (intro q; exact absurd q (Nat.lt_irrefl _)) | (intro q; simp at q; omega))) | (with_reducible refine Fr.via ?_ (by assumption)) | (with_reducible refine Fr.comp ?_ (by assumption)))), by simp⟩
theorem ask_any {w : World} {cb : Nat} {cm : List UInt8 → Int} {s : FS} (h : KAt w cb cm s) (ok : Bool) (e : Nat) (n : List UInt8) :
    Calls Tryd.prog 74 #[.pointer (some ⟨cb, 0, none⟩), .bool ok, .int .i64 (e : Int), .string ⟨n.toArray⟩] w fun r w' => r = .returned (.tuple #[]) ∧ KAt w' cb cm (askF ok s e n) ∧ Fr (fun b => b = cb) w w' :=
  (ask_cell h ok e n).mono fun _ _ ⟨h1, h2, h3, _⟩ => ⟨h1, h2, h3⟩
set_option maxRecDepth 100000 in
theorem params_any {w : World} {cb : Nat} {cm : List UInt8 → Int} {s : FS} (h : KAt w cb cm s) (k : Nat) (n : List UInt8) :
    Calls Tryd.prog 75 #[.pointer (some ⟨cb, 0, none⟩), .int .i64 (k : Int), .string ⟨n.toArray⟩] w fun r w' => r = .returned (.tuple #[]) ∧ KAt w' cb cm (askF (decide (k ≤ 24)) s 12 n) ∧ Fr (fun b => b = cb) w w' := by
  have HA := Lib.hid (ask_any h (decide (k ≤ 24)) 12 n)
  obtain ⟨ok, hok⟩ : ∃ ok, decide (k ≤ 24) = ok := ⟨_, rfl⟩
  have hi : decide ((k : Int) ≤ 24) = ok := by rw [← hok]; exact decide_eq_decide.2 (by omega)
  rw [hok] at HA ⊢
  clear h hok
  cases ok with
  | true =>
    have q : (k : Int) ≤ 24 := of_decide_eq_true hi
    clear hi
    go_enter Tryd.func75, Tryd.ntmps75
    go_wp2_with fail
    refine HA.out.mono ?_
    rintro e w2 ⟨rfl, h2, f2⟩
    have H2 := Lib.hid (And.intro h2 f2)
    clear h2 f2
    go_wp2
    go_end0
    exact ⟨rfl, H2.out.1, H2.out.2⟩
  | false =>
    have q : ¬ (k : Int) ≤ 24 := of_decide_eq_false hi
    clear hi
    go_enter Tryd.func75, Tryd.ntmps75
    go_wp2_with fail
    refine HA.out.mono ?_
    rintro e w2 ⟨rfl, h2, f2⟩
    have H2 := Lib.hid (And.intro h2 f2)
    clear h2 f2
    go_wp2
    go_end0
    exact ⟨rfl, H2.out.1, H2.out.2⟩
end Go.Proofs.YtpjlibbdngnnnaaDoor

namespace Go.Proofs.YtpjlibbdngnnnaaDoor
set_option linter.unusedSimpArgs false
set_option linter.unusedVariables false
open Go.RowKit

section
variable (cm : List UInt8 → Int)
/-- What is asked of an expression itself. -/
def askE (k : Nat) (n : List UInt8) (ps : List (List UInt8)) (nk : Nat) (s : FS) : FS :=
  if k = 2 then askF (decide ((nk : Int) = cm n)) s 11 n
  else if k = 5 then askF (decide ((nk : Int) = takesF n)) s 11 n
  else if k = 4 then askF (decide (nk ≤ 25)) s 12 []
  else if k = 8 then askF (decide (ps.length ≤ 24)) s 12 (ps.headD [])
  else s
mutual
def arE : TE → FS → FS
  | .mk k n _ _ ps ks bs al, s => arA al (arK ks (arB bs (askE cm k n ps ks.length s)))
def arK : List TE → FS → FS
  | [], s => s
  | e :: l, s => arK l (arE e s)
def arB : List TB → FS → FS
  | [], s => s
  | .mk n p e :: l, s => arB l (arE e (askF (decide (p.length ≤ 24)) s 12 n))
def arA : List TA → FS → FS
  | [], s => s
  | .mk k n _ _ ns e :: l, s => arA l (arE e (if k = 0 then askF (decide ((ns.length : Int) = cm n)) s 11 n else s))
end
theorem arK_app : ∀ (a b : List TE) (s : FS), arK cm (a ++ b) s = arK cm b (arK cm a s)
  | [], _, _ => by rw [arK]; rfl
  | e :: l, b, s => by
    show arK cm (e :: (l ++ b)) s = _
    rw [arK, arK, arK_app l b]
theorem arB_app : ∀ (a b : List TB) (s : FS), arB cm (a ++ b) s = arB cm b (arB cm a s)
  | [], _, _ => by rw [arB]; rfl
  | .mk n p e :: l, b, s => by
    show arB cm (.mk n p e :: (l ++ b)) s = _
    rw [arB, arB, arB_app l b]
theorem arA_app : ∀ (a b : List TA) (s : FS), arA cm (a ++ b) s = arA cm b (arA cm a s)
  | [], _, _ => by rw [arA]; rfl
  | .mk k n f b2 p e :: l, b, s => by
    show arA cm (.mk k n f b2 p e :: (l ++ b)) s = _
    rw [arA, arA, arA_app l b]
theorem arK_take {ks : List TE} {j : Nat} (h : j < ks.length) (s : FS) : arK cm (ks.take (j + 1)) s = arE cm ks[j] (arK cm (ks.take j) s) := by
  rw [List.take_succ_eq_append_getElem h, arK_app, arK, arK]
theorem arB_take {bs : List TB} {j : Nat} (h : j < bs.length) (s : FS) : arB cm (bs.take (j + 1)) s = arE cm bs[j].body (askF (decide (bs[j].params.length ≤ 24)) (arB cm (bs.take j) s) 12 bs[j].name) := by
  rw [List.take_succ_eq_append_getElem h, arB_app]
  obtain ⟨n, p, e⟩ := bs[j]
  rw [arB, arB]
  rfl
/-- What one alternative asks. -/
def askA (a : TA) (s : FS) : FS := if a.kind = 0 then askF (decide ((a.names.length : Int) = cm a.name)) s 11 a.name else s
theorem arA_take {al : List TA} {j : Nat} (h : j < al.length) (s : FS) : arA cm (al.take (j + 1)) s = arE cm al[j].body (askA cm al[j] (arA cm (al.take j) s)) := by
  rw [List.take_succ_eq_append_getElem h, arA_app]
  obtain ⟨k, n, f, b, p, e⟩ := al[j]
  rw [arA, arA]
  rfl
end
/-- An expression's cells, and what lies behind them, in none of the blocks X. -/
theorem EAt.openedX {X : Nat → Prop} {w : World} {cs : List Value} {k : Nat} {nm : List UInt8} {fl : Bool} {bi : Nat} {ps : List (List UInt8)} {ks : List TE} {bs : List TB} {al : List TA} (h : EAt X w cs (.mk k nm fl bi ps ks bs al)) :
    ∃ (a0 : Option Addr) (c0 : Nat) (a1 : Option Addr) (c1 : Nat) (a2 : Option Addr) (c2 : Nat) (a3 : Option Addr) (c3 : Nat) (kc bc ac : Nat → List Value), cs = [.int .i64 (k : Int), .string ⟨nm.toArray⟩, .bool fl, .int .u64 (bi : Int), .slice a0 ps.length c0, .slice a1 ks.length c1, .slice a2 bs.length c2, .slice a3 al.length c3] ∧
      RowS X w (.slice a0 ps.length c0) ps ∧ RowC X w (.slice a1 ks.length c1) ks.length 8 kc ∧ (∀ i (h : i < ks.length), EAt X w (kc i) ks[i]) ∧
      RowC X w (.slice a2 bs.length c2) bs.length 10 bc ∧ (∀ i (h : i < bs.length), BAt X w (bc i) bs[i]) ∧ RowC X w (.slice a3 al.length c3) al.length 13 ac ∧ (∀ i (h : i < al.length), AAt X w (ac i) al[i]) := by
  cases h with
  | mk kc bc ac be ae bp an hp hk hk2 hb hb1 hb2 hb3 ha ha1 ha2 ha3 =>
    obtain ⟨a0, c0, rfl⟩ := RowC.shape hp
    obtain ⟨a1, c1, rfl⟩ := hk.shape
    obtain ⟨a2, c2, rfl⟩ := hb.shape
    obtain ⟨a3, c3, rfl⟩ := ha.shape
    exact ⟨a0, c0, a1, c1, a2, c2, a3, c3, kc, bc, ac, rfl, hp, hk, hk2, hb, fun i hi => ⟨bp i, be i, hb1 i hi, hb2 i hi, hb3 i hi⟩, ha, fun i hi => ⟨an i, ae i, ha1 i hi, ha2 i hi, ha3 i hi⟩⟩
section
variable {cm : List UInt8 → Int}
/-- What the checker does of an expression. -/
def ArOk (cm : List UInt8 → Int) (e : TE) : Prop := ∀ (w : World) (cb : Nat) (s : FS) (cs : List Value), KAt w cb cm s → EAt (fun b => b = cb) w cs e →
  Calls Tryd.prog 76 #[.pointer (some ⟨cb, 0, none⟩), .agg cs.toArray] w fun r w' => r = .returned (.tuple #[]) ∧ KAt w' cb cm (arE cm e s) ∧ Fr (fun b => b = cb) w w'
variable {w : World} {cb : Nat} {s : FS}

set_option maxRecDepth 100000 in
set_option maxHeartbeats 4000000 in
theorem arbinds_any {bs : List TB} {sa : Option Addr} {n cap : Nat} {bc : Nat → List Value} (hOk : ∀ b ∈ bs, ArOk cm b.body) (h : KAt w cb cm s) (hn : bs.length = n) (hr : RowC (fun b => b = cb) w (.slice sa n cap) n 10 bc) (hb : ∀ i (h : i < bs.length), BAt (fun b => b = cb) w (bc i) bs[i]) :
    Calls Tryd.prog 37 #[.pointer (some ⟨cb, 0, none⟩), .slice sa n cap] w fun r w' => r = .returned (.tuple #[]) ∧ KAt w' cb cm (arB cm bs s) ∧ Fr (fun b => b = cb) w w' := by
  have hn9 := hr.lenX
  have H0 := Lib.hid (And.intro hOk (And.intro h (And.intro hn (And.intro hr hb))))
  clear hOk h hn hr hb
  go_enter Tryd.func37, Tryd.ntmps37
  go_wp2_with fail
  go_loopg [8] n (fun g iv wr => ∃ k : Nat, g = n - k ∧ k ≤ n ∧ iv = .int .i64 (k : Int) ∧ Hid (KAt wr cb cm (arB cm (bs.take k) s) ∧ Fr (fun b => b = cb) w wr))
  case atStart => exact ⟨0, rfl, by omega, rfl, Lib.hid ⟨by rw [List.take_zero, arB]; exact H0.out.2.1, Fr.refl _ _⟩⟩
  case round =>
    obtain ⟨kk, rfl, hk, rfl, HS⟩ := hrel
    have j0 : (0 : Int) ≤ (kk : Int) := by omega
    by_cases hlt : kk < n
    · have hkL : kk < bs.length := by rw [H0.out.2.2.1]; exact hlt
      have wkk : IntKind.i64.wrap ((kk : Int) + 1) = (kk : Int) + 1 := by rw [IntKind.wrap_i64]; omega
      have j1 : (kk : Int) < (n : Int) := by omega
      obtain ⟨b, off, rfl, hbx, hc⟩ := (H0.out.2.2.2.1.fr HS.out.2 (fun _ q => q)).at hlt
      have hBA := lawB.fr (H0.out.2.2.2.2 kk hkL) HS.out.2 (fun _ q => q)
      obtain ⟨bn, pa, pn, pc, k', nm', fl', bi', e0, m0, d0, e1, m1, d1, e2, m2, d2, e3, m3, d3, ec⟩ := hBA.formB
      rw [ec] at hc hBA
      obtain ⟨hrp, hE, hbn⟩ := hBA.parts
      obtain ⟨x, hx⟩ : ∃ x, bs[kk].name = x := ⟨_, rfl⟩
      rw [hx] at hbn
      subst hbn
      have hpn : bs[kk].params.length = pn := by
        obtain ⟨a9, c9, e9, _⟩ := hrp
        cases e9
        rfl
      have hcs := arB_take cm hkL s
      rw [hpn, hx] at hcs
      have HX := Lib.hid (And.intro hcs (And.intro (H0.out.1 _ (List.getElem_mem hkL)) hE))
      have p0 := hc 0 _ rfl
      have p1 := hc 1 _ rfl
      have p2 := hc 2 _ rfl
      have p3 := hc 3 _ rfl
      have p4 := hc 4 _ rfl
      have p5 := hc 5 _ rfl
      have p6 := hc 6 _ rfl
      have p7 := hc 7 _ rfl
      have p8 := hc 8 _ rfl
      have p9 := hc 9 _ rfl
      simp only [Nat.add_zero] at p0
      have hcl := HS.out.1.lt
      clear hc ec hx hBA hrp hE hpn hcs
      obtain ⟨T, hT⟩ : ∃ T, wr.heap.size = T := ⟨_, rfl⟩
      have hTc : cb < T := by omega
      have hbT : b < T := by have q : b < wr.heap.size := World.block_lt_of_cell? _ _ p0; omega
      go_upto_region 3 with fail
      try rw [hT]
      obtain ⟨W4, hW4⟩ : ∃ W4, wr.alloc (.cells #[.string ⟨x.toArray⟩, .slice pa pn pc, .int .i64 (k' : Int), .string nm', .bool fl', .int .u64 (bi' : Int), .slice e0 m0 d0, .slice e1 m1 d1, .slice e2 m2 d2, .slice e3 m3 d3] 42) = W4 := ⟨_, rfl⟩
      rw [hW4]
      have f4 : Fr Nil wr W4 := by rw [← hW4]; (repeat (first | (with_reducible exact Fr.refl _ _) | (with_reducible assumption) | (with_reducible exact Fr.of_nil (by assumption)) | (with_reducible refine Fr.drew ?_) | (with_reducible refine Fr.drewN ?_ _) | (with_reducible refine Fr.alloc ?_ _) | (with_reducible refine Fr.set ?_ _ _ (by first | (intros; omega) | (simp; done) | (simp; omega))) | (with_reducible refine Fr.via ?_ (by assumption)) | (with_reducible refine Fr.comp ?_ (by assumption))))
      have b4 : Blk W4 T #[.string ⟨x.toArray⟩, .slice pa pn pc, .int .i64 (k' : Int), .string nm', .bool fl', .int .u64 (bi' : Int), .slice e0 m0 d0, .slice e1 m1 d1, .slice e2 m2 d2, .slice e3 m3 d3] 42 := by rw [← hW4, ← hT]; exact Blk.new _ _ _
      have y0 := b4.cell 0
      have y1 := b4.cell 1
      simp at y0 y1
      have yl := b4.lt
      have HA := Lib.hid (params_any (HS.out.1.fr f4) pn x)
      have H4 := Lib.hid (And.intro f4 b4)
      clear hW4 f4 b4 hT p0 p1 p2 p3 p4 p5 p6 p7 p8 p9
      go_wp2_with fail
      refine HA.out.mono ?_
      rintro e w5 ⟨rfl, h5, f5⟩
      have b5 := f5.blk H4.out.2 (fun q => by have q' : T = cb := q; omega)
      have H5 := Lib.hid (And.intro h5 ((Fr.of_nil H4.out.1).comp f5))
      clear h5 f5 y0 y1 yl HA
      have y2 := b5.cell 2
      have y3 := b5.cell 3
      have y4 := b5.cell 4
      have y5 := b5.cell 5
      have y6 := b5.cell 6
      have y7 := b5.cell 7
      have y8 := b5.cell 8
      have y9 := b5.cell 9
      simp at y2 y3 y4 y5 y6 y7 y8 y9
      have yl := b5.lt
      clear b5
      go_wp2_with fail
      refine (HX.out.2.1 _ cb _ _ H5.out.1 (HX.out.2.2.fr H5.out.2 (fun _ q => q))).mono ?_
      rintro e w6 ⟨rfl, h6, f6⟩
      have H6 := Lib.hid (And.intro h6 (H5.out.2.comp f6))
      clear h6 f6
      go_wp2
      go_roundg (n - (kk + 1))
      case rel => exact ⟨kk + 1, rfl, by omega, by simp, Lib.hid ⟨by rw [HX.out.1]; exact H6.out.1, HS.out.2.comp H6.out.2⟩⟩
      case measure => omega
    · have j1 : ¬ (kk : Int) < (n : Int) := by omega
      obtain rfl : n = kk := by omega
      have HS1 : Hid (KAt wr cb cm (arB cm bs s)) := Lib.hid (by
        have h := HS.out.1
        rw [List.take_of_length_le (by rw [H0.out.2.2.1]; exact Nat.le_refl _)] at h
        exact h)
      go_wp2
      go_end0
      exact ⟨rfl, HS1.out, HS.out.2⟩

set_option maxRecDepth 100000 in
set_option maxHeartbeats 8000000 in
theorem arexpr_any {k : Nat} {nm : List UInt8} {fl : Bool} {bi : Nat} {ps : List (List UInt8)} {ks : List TE} {bs : List TB} {al : List TA} (hn : nm.length ≤ maxLen) (hla : ∀ a ∈ al, a.name.length ≤ maxLen) (h8 : k = 8 → ps ≠ []) (hK : ∀ e ∈ ks, ArOk cm e) (hB : ∀ b ∈ bs, ArOk cm b.body) (hA : ∀ a ∈ al, ArOk cm a.body) : ArOk cm (.mk k nm fl bi ps ks bs al) := by
  intro w cb s cs h hE
  obtain ⟨a0, c0, a1, c1, a2, c2, a3, c3, kc, bc, ac, rfl, hp, hk, hk2, hb, hb2, ha, ha2⟩ := hE.openedX
  obtain ⟨nk, hnk⟩ : ∃ nk, ks.length = nk := ⟨_, rfl⟩
  obtain ⟨nb, hnb⟩ : ∃ nb, bs.length = nb := ⟨_, rfl⟩
  obtain ⟨na, hna⟩ : ∃ na, al.length = na := ⟨_, rfl⟩
  obtain ⟨np, hnp⟩ : ∃ np, ps.length = np := ⟨_, rfl⟩
  rw [hnk] at hk
  rw [hnb] at hb
  rw [hna] at ha
  rw [hnp] at hp
  rw [hnk, hnb, hna, hnp]
  have hnk9 := hk.lenX
  have hna9 := ha.lenX
  have hv : arE cm (.mk k nm fl bi ps ks bs al) s = arA cm al (arK cm ks (arB cm bs (askE cm k nm ps nk s))) := by rw [arE, hnk]
  obtain ⟨s1, hs1⟩ : ∃ s1, askE cm k nm ps nk s = s1 := ⟨_, rfl⟩
  rw [hs1] at hv
  have H0 := Lib.hid (And.intro h (And.intro hp (And.intro hk (And.intro hk2 (And.intro hb (And.intro hb2 (And.intro ha (And.intro ha2 (And.intro hv (And.intro hs1 (And.intro hnk (And.intro hnb (And.intro hna hnp)))))))))))))
  have HO := Lib.hid (And.intro hK (And.intro hB (And.intro hA (And.intro hla h8))))
  have hcl := h.lt
  clear hE h hp hk hk2 hb hb2 ha ha2 hv hs1 hnk hnb hna hnp hK hB hA hla h8
  obtain ⟨T, hT⟩ : ∃ T, w.heap.size = T := ⟨_, rfl⟩
  go_enter Tryd.func76, Tryd.ntmps76
  go_upto_block 0 with fail
  try rw [hT]
  obtain ⟨W1, hW1⟩ : ∃ W1, w.alloc (.cells #[.int .i64 (k : Int), .string ⟨nm.toArray⟩, .bool fl, .int .u64 (bi : Int), .slice a0 np c0, .slice a1 nk c1, .slice a2 nb c2, .slice a3 na c3] 40) = W1 := ⟨_, rfl⟩
  rw [hW1]
  have f1 : Fr Nil w W1 := by rw [← hW1]; (repeat (first | (with_reducible exact Fr.refl _ _) | (with_reducible assumption) | (with_reducible exact Fr.of_nil (by assumption)) | (with_reducible refine Fr.drew ?_) | (with_reducible refine Fr.drewN ?_ _) | (with_reducible refine Fr.alloc ?_ _) | (with_reducible refine Fr.set ?_ _ _ (by first | (intros; omega) | (simp; done) | (simp; omega))) | (with_reducible refine Fr.via ?_ (by assumption)) | (with_reducible refine Fr.comp ?_ (by assumption))))
  have b1 : Blk W1 T #[.int .i64 (k : Int), .string ⟨nm.toArray⟩, .bool fl, .int .u64 (bi : Int), .slice a0 np c0, .slice a1 nk c1, .slice a2 nb c2, .slice a3 na c3] 40 := by rw [← hW1, ← hT]; exact Blk.new _ _ _
  have hTc : cb < T := by omega
  have H1 := Lib.hid (And.intro f1 (And.intro b1 (H0.out.1.fr f1)))
  have y1 := b1.cell 1
  have y4 := b1.cell 4
  have y5 := b1.cell 5
  simp at y1 y4 y5
  have yl := b1.lt
  clear hW1 f1 b1 hT
  go_cut [] (fun wx => Hid (KAt wx cb cm s1 ∧ Fr (fun b => b = cb) W1 wx))
  case first =>
    have hs1 := H0.out.2.2.2.2.2.2.2.2.2.1
    by_cases k2 : k = 2
    · subst k2
      obtain ⟨ok, hok⟩ : ∃ ok : Bool, ((nk : Int) == cm nm) = ok := ⟨_, rfl⟩
      have hok2 : decide ((nk : Int) = cm nm) = ok := by rw [← hok]; rfl
      have hv : askF ok s 11 nm = s1 := by rw [← hs1]; unfold askE; rw [if_pos rfl, hok2]
      obtain ⟨mc, K, hb1, hm1⟩ := H1.out.2.2
      have x0 := hb1.cell 0
      simp at x0
      have xl := hb1.lt
      have HV := Lib.hid (And.intro hv hm1)
      have hL : (Instr.lookup 61 (.map (some mc)) (.string ⟨nm.toArray⟩) false).run Tryd.prog W1.drew = .ok (.int .i64 (cm nm)) W1.drew := SMap.run (w := W1.drew) Tryd.underlying61 (hm1.fr (S := Nil) (Fr.drew (Fr.refl _ _)) (fun q => q)) hn
      clear hs1 hv hb1 hm1
      have HK : Hid (∀ w', Fr (fun b => b = cb) W1 w' → w'.cell? ⟨T, 1, none⟩ = some (.string ⟨nm.toArray⟩) ∧ w'.cell? ⟨T, 5, none⟩ = some (.slice a1 nk c1)) := Lib.hid (fun w' f => by
        have b := f.blk H1.out.2.1 (fun q => by have q' : T = cb := q; omega)
        have z1 := b.cell 1
        have z5 := b.cell 5
        simp at z1 z5
        exact ⟨z1, z5⟩)
      have HX0 := Lib.hid x0
      go_upto_region 3 with fail
      go_region_held3 (fun w' => w'.cell? ⟨T, 1, none⟩ = some (.string ⟨nm.toArray⟩) ∧ w'.cell? ⟨T, 5, none⟩ = some (.slice a1 nk c1) ∧ w'.cell? ⟨cb, 0, none⟩ = some (.map (some mc))) (first | (with_reducible exact ⟨(HK.out _ g3).1, (HK.out _ g3).2, z3⟩) | (refine ⟨(HK.out _ ?_).1, (HK.out _ ?_).2, ?_⟩ <;> first | exact Fr.of_nil (by (repeat (first | (with_reducible exact Fr.refl _ _) | (with_reducible assumption) | (with_reducible exact Fr.of_nil (by assumption)) | (with_reducible refine Fr.drew ?_) | (with_reducible refine Fr.drewN ?_ _) | (with_reducible refine Fr.alloc ?_ _) | (with_reducible refine Fr.set ?_ _ _ (by first | (intros; omega) | (simp; done) | (simp; omega))) | (with_reducible refine Fr.via ?_ (by assumption)) | (with_reducible refine Fr.comp ?_ (by assumption))))) | exact HX0.out)) (first
        | (go_at_call 74; refine (ask_cell (H1.out.2.2.fr (by (repeat (first | (with_reducible exact Fr.refl _ _) | (with_reducible assumption) | (with_reducible exact Fr.of_nil (by assumption)) | (with_reducible refine Fr.drew ?_) | (with_reducible refine Fr.drewN ?_ _) | (with_reducible refine Fr.alloc ?_ _) | (with_reducible refine Fr.set ?_ _ _ (by first | (intros; omega) | (simp; done) | (simp; omega))) | (with_reducible refine Fr.via ?_ (by assumption)) | (with_reducible refine Fr.comp ?_ (by assumption)))))) ok 11 nm).mono ?_; rintro r w3 ⟨rfl, h3, f3, z3⟩; have g3 : Fr (fun b => b = cb) W1 w3 := Fr.comp (S := fun b => b = cb) (by (repeat (first | (with_reducible exact Fr.refl _ _) | (with_reducible assumption) | (with_reducible exact Fr.of_nil (by assumption)) | (with_reducible refine Fr.drew ?_) | (with_reducible refine Fr.drewN ?_ _) | (with_reducible refine Fr.alloc ?_ _) | (with_reducible refine Fr.set ?_ _ _ (by first | (intro _; exact rfl) | (intro _; exact .inl rfl) | (intro _; exact .inr rfl) | (intro q; exact absurd q (Nat.lt_irrefl _)) | (intro q; simp at q; omega))) | (with_reducible refine Fr.via ?_ (by assumption)) | (with_reducible refine Fr.comp ?_ (by assumption))))) f3; have z3 := z3.trans HX0.out; clear f3))
      rename_i hHeld
      clear hHeld
      have f3 := g3
      rw [HV.out.1] at h3
      have H3 := Lib.hid (And.intro h3 f3)
      clear h3 f3 g3 z3
      go_wp2_with fail
      go_meet
      case rel => exact H3
    by_cases k5 : k = 5
    · subst k5
      obtain ⟨ok, hok⟩ : ∃ ok : Bool, ((nk : Int) == takesF nm) = ok := ⟨_, rfl⟩
      have hok2 : decide ((nk : Int) = takesF nm) = ok := by rw [← hok]; rfl
      have hv : askF ok s 11 nm = s1 := by rw [← hs1]; unfold askE; rw [if_neg (by decide), if_pos rfl, hok2]
      have HV := Lib.hid hv
      have HK : Hid (∀ w', Fr (fun b => b = cb) W1 w' → w'.cell? ⟨T, 1, none⟩ = some (.string ⟨nm.toArray⟩) ∧ w'.cell? ⟨T, 5, none⟩ = some (.slice a1 nk c1)) := Lib.hid (fun w' f => by
        have b := f.blk H1.out.2.1 (fun q => by have q' : T = cb := q; omega)
        have z1 := b.cell 1
        have z5 := b.cell 5
        simp at z1 z5
        exact ⟨z1, z5⟩)
      clear hs1 hv y1 y4 y5
      go_upto_region 5 with fail
      go_region_held3 (fun w' => w'.cell? ⟨T, 1, none⟩ = some (.string ⟨nm.toArray⟩) ∧ w'.cell? ⟨T, 5, none⟩ = some (.slice a1 nk c1)) (with_reducible refine HK.out _ ?_; first | assumption | exact Fr.of_nil (by assumption) | exact Fr.of_nil (by (repeat (first | (with_reducible exact Fr.refl _ _) | (with_reducible assumption) | (with_reducible exact Fr.of_nil (by assumption)) | (with_reducible refine Fr.drew ?_) | (with_reducible refine Fr.drewN ?_ _) | (with_reducible refine Fr.alloc ?_ _) | (with_reducible refine Fr.set ?_ _ _ (by first | (intros; omega) | (simp; done) | (simp; omega))) | (with_reducible refine Fr.via ?_ (by assumption)) | (with_reducible refine Fr.comp ?_ (by assumption)))))) (first
        | (go_at_call 74; refine (ask_any (H1.out.2.2.fr ga) ok 11 nm).mono ?_; rintro r w3 ⟨rfl, h3, f3⟩; have g3 : Fr (fun b => b = cb) W1 w3 := (Fr.of_nil ga).comp f3; clear f3)
        | (go_at_call 35; refine (takes_any nm _).mono ?_; rintro r wa ⟨rfl, fa⟩; have ga : Fr Nil W1 wa := Fr.comp (S := Nil) (by first | assumption | (repeat (first | (with_reducible exact Fr.refl _ _) | (with_reducible assumption) | (with_reducible exact Fr.of_nil (by assumption)) | (with_reducible refine Fr.drew ?_) | (with_reducible refine Fr.drewN ?_ _) | (with_reducible refine Fr.alloc ?_ _) | (with_reducible refine Fr.set ?_ _ _ (by first | (intros; omega) | (simp; done) | (simp; omega))) | (with_reducible refine Fr.via ?_ (by assumption)) | (with_reducible refine Fr.comp ?_ (by assumption))))) fa; clear fa))
      rename_i hHeld
      clear hHeld
      rw [HV.out] at h3
      have H3 := Lib.hid (And.intro h3 g3)
      clear h3 g3
      go_wp2_with fail
      go_meet
      case rel => exact H3
    by_cases k4 : k = 4
    · subst k4
      obtain ⟨ok, hok⟩ : ∃ ok : Bool, decide (nk ≤ 25) = ok := ⟨_, rfl⟩
      have hok2 : decide ((nk : Int) ≤ 25) = ok := by rw [← hok]; exact decide_eq_decide.2 (by omega)
      have hv : askF ok s 12 [] = s1 := by rw [← hs1]; unfold askE; rw [if_neg (by decide), if_neg (by decide), if_pos rfl, hok]
      have HV := Lib.hid hv
      clear hs1 hv
      go_wp2_with fail
      refine (ask_any (H1.out.2.2.fr (by (repeat (first | (with_reducible exact Fr.refl _ _) | (with_reducible assumption) | (with_reducible exact Fr.of_nil (by assumption)) | (with_reducible refine Fr.drew ?_) | (with_reducible refine Fr.drewN ?_ _) | (with_reducible refine Fr.alloc ?_ _) | (with_reducible refine Fr.set ?_ _ _ (by first | (intros; omega) | (simp; done) | (simp; omega))) | (with_reducible refine Fr.via ?_ (by assumption)) | (with_reducible refine Fr.comp ?_ (by assumption)))))) ok 12 []).mono ?_
      rintro e w3 ⟨rfl, h3, f3⟩
      rw [HV.out] at h3
      have H3 := Lib.hid (And.intro h3 (Fr.comp (S := fun b => b = cb) (by (repeat (first | (with_reducible exact Fr.refl _ _) | (with_reducible assumption) | (with_reducible exact Fr.of_nil (by assumption)) | (with_reducible refine Fr.drew ?_) | (with_reducible refine Fr.drewN ?_ _) | (with_reducible refine Fr.alloc ?_ _) | (with_reducible refine Fr.set ?_ _ _ (by first | (intro _; exact rfl) | (intro _; exact .inl rfl) | (intro _; exact .inr rfl) | (intro q; exact absurd q (Nat.lt_irrefl _)) | (intro q; simp at q; omega))) | (with_reducible refine Fr.via ?_ (by assumption)) | (with_reducible refine Fr.comp ?_ (by assumption))))) f3 : Fr (fun b => b = cb) W1 w3))
      clear h3 f3
      go_wp2_with fail
      go_meet
      case rel => exact H3
    by_cases k8 : k = 8
    · subst k8
      have hne := HO.out.2.2.2.2 rfl
      have hnp := H0.out.2.2.2.2.2.2.2.2.2.2.2.2.2
      have hp0 : 0 < ps.length := List.length_pos_iff.2 hne
      obtain ⟨pb, po, rfl, hpb, x0⟩ := (RowS.fr H0.out.2.1 H1.out.1 (fun b q => q.elim)).cell 0 hp0
      obtain ⟨x, hx⟩ : ∃ x, ps[0] = x := ⟨_, rfl⟩
      rw [hx] at x0
      have hhd : ps.headD [] = x := by
        cases ps with
        | nil => exact absurd rfl hne
        | cons a l => simpa using hx
      have hv : askF (decide (np ≤ 24)) s 12 x = s1 := by rw [← hs1]; unfold askE; rw [if_neg (by decide), if_neg (by decide), if_neg (by decide), if_pos rfl, hhd, hnp]
      have i0 : (0 : Int) < (np : Int) := by omega
      have i0n : 0 < np := by omega
      have HV := Lib.hid hv
      simp only [Nat.add_zero] at x0
      have xl : pb < W1.heap.size := World.block_lt_of_cell? _ _ x0
      clear hs1 hv hne hnp hp0 hx hhd
      go_upto_region 9 with fail
      go_still_tail 8, (by kernel_rfl)
      change wpList _ _ _ _ _ W1.drew
      go_wp2_with fail
      refine (params_any (H1.out.2.2.fr (by (repeat (first | (with_reducible exact Fr.refl _ _) | (with_reducible assumption) | (with_reducible exact Fr.of_nil (by assumption)) | (with_reducible refine Fr.drew ?_) | (with_reducible refine Fr.drewN ?_ _) | (with_reducible refine Fr.alloc ?_ _) | (with_reducible refine Fr.set ?_ _ _ (by first | (intros; omega) | (simp; done) | (simp; omega))) | (with_reducible refine Fr.via ?_ (by assumption)) | (with_reducible refine Fr.comp ?_ (by assumption)))))) np x).mono ?_
      rintro e w3 ⟨rfl, h3, f3⟩
      rw [HV.out] at h3
      have H3 := Lib.hid (And.intro h3 (Fr.comp (S := fun b => b = cb) (by (repeat (first | (with_reducible exact Fr.refl _ _) | (with_reducible assumption) | (with_reducible exact Fr.of_nil (by assumption)) | (with_reducible refine Fr.drew ?_) | (with_reducible refine Fr.drewN ?_ _) | (with_reducible refine Fr.alloc ?_ _) | (with_reducible refine Fr.set ?_ _ _ (by first | (intro _; exact rfl) | (intro _; exact .inl rfl) | (intro _; exact .inr rfl) | (intro q; exact absurd q (Nat.lt_irrefl _)) | (intro q; simp at q; omega))) | (with_reducible refine Fr.via ?_ (by assumption)) | (with_reducible refine Fr.comp ?_ (by assumption))))) f3 : Fr (fun b => b = cb) W1 w3))
      clear h3 f3
      go_wp2_with fail
      go_meet
      case rel => exact H3
    have d2 : ((k : Int) == 2) = false := by rw [beq_eq_false_iff_ne]; omega
    have d5 : ((k : Int) == 5) = false := by rw [beq_eq_false_iff_ne]; omega
    have d4 : ((k : Int) == 4) = false := by rw [beq_eq_false_iff_ne]; omega
    have d8 : ((k : Int) == 8) = false := by rw [beq_eq_false_iff_ne]; omega
    have hv : s = s1 := by rw [← hs1]; unfold askE; rw [if_neg k2, if_neg k5, if_neg k4, if_neg k8]
    have H3 : Hid (KAt W1 cb cm s1 ∧ Fr (fun b => b = cb) W1 W1) := Lib.hid ⟨by rw [← hv]; exact H1.out.2.2, Fr.refl _ _⟩
    clear hs1 hv k2 k5 k4 k8
    go_wp2_with fail
    go_meet
    case rel => exact H3
  case rest =>
    obtain ⟨W2, hW2⟩ : ∃ W, W = wc := ⟨_, rfl⟩
    subst hW2
    have HC := Lib.hid hcut.out
    clear hcut y1 y4 y5
    have b2 := HC.out.2.blk H1.out.2.1 (fun q => by have q' : T = cb := q; omega)
    have y6 := b2.cell 6
    simp at y6
    have yl2 := b2.lt
    have HB2 := Lib.hid b2
    have fw2 : Fr (fun b => b = cb) w W2 := (Fr.of_nil H1.out.1).comp HC.out.2
    have HA := Lib.hid (arbinds_any HO.out.2.1 HC.out.1 H0.out.2.2.2.2.2.2.2.2.2.2.2.1 (H0.out.2.2.2.2.1.fr fw2 (fun _ q => q)) (fun i hi => lawB.fr (H0.out.2.2.2.2.2.1 i hi) fw2 (fun _ q => q)))
    have HF2 := Lib.hid fw2
    clear b2 fw2
    go_wp2_with fail
    refine HA.out.mono ?_
    rintro e w3 ⟨rfl, h3, f3⟩
    have b3 := f3.blk HB2.out (fun q => by have q' : T = cb := q; omega)
    have y5 := b3.cell 5
    simp at y5
    have yl3 := b3.lt
    have H3 := Lib.hid (And.intro h3 (And.intro (HF2.out.comp f3) b3))
    clear h3 f3 b3 y6 yl2 HA
    go_wp2_with fail
    go_loopg [66] nk (fun g iv wr => ∃ k : Nat, g = nk - k ∧ k ≤ nk ∧ iv = .int .i64 (k : Int) ∧ Hid (KAt wr cb cm (arK cm (ks.take k) (arB cm bs s1)) ∧ Fr (fun b => b = cb) w3 wr))
    case atStart => exact ⟨0, rfl, by omega, rfl, Lib.hid ⟨by rw [List.take_zero, arK]; exact H3.out.1, Fr.refl _ _⟩⟩
    case round =>
      obtain ⟨kk, rfl, hk, rfl, HS⟩ := hrel
      have j0 : (0 : Int) ≤ (kk : Int) := by omega
      by_cases hlt : kk < nk
      · have hkL : kk < ks.length := by rw [H0.out.2.2.2.2.2.2.2.2.2.2.1]; exact hlt
        have wkk : IntKind.i64.wrap ((kk : Int) + 1) = (kk : Int) + 1 := by rw [IntKind.wrap_i64]; omega
        have j1 : (kk : Int) < (nk : Int) := by omega
        have fwr : Fr (fun b => b = cb) w wr := H3.out.2.1.comp HS.out.2
        obtain ⟨b, off, rfl, hbx, hc⟩ := (H0.out.2.2.1.fr fwr (fun _ q => q)).at hlt
        have hE := (H0.out.2.2.2.1 kk hkL).fr fwr (fun _ q => q)
        obtain ⟨k', nm', fl', bi', e0, m0, d0, e1, m1, d1, e2, m2, d2, e3, m3, d3, ec⟩ := hE.formE
        rw [ec] at hc hE
        have hcs := arK_take cm hkL (arB cm bs s1)
        have HX := Lib.hid (And.intro hcs (And.intro (HO.out.1 _ (List.getElem_mem hkL)) hE))
        have p0 := hc 0 _ rfl
        have p1 := hc 1 _ rfl
        have p2 := hc 2 _ rfl
        have p3 := hc 3 _ rfl
        have p4 := hc 4 _ rfl
        have p5 := hc 5 _ rfl
        have p6 := hc 6 _ rfl
        have p7 := hc 7 _ rfl
        simp only [Nat.add_zero] at p0
        have hcl := HS.out.1.lt
        have hbl : b < wr.heap.size := World.block_lt_of_cell? _ _ p0
        clear hc ec hE hcs fwr y5 yl3
        go_wp2_with fail
        refine (HX.out.2.1 _ cb _ _ (HS.out.1.fr (by (repeat (first | (with_reducible exact Fr.refl _ _) | (with_reducible assumption) | (with_reducible exact Fr.of_nil (by assumption)) | (with_reducible refine Fr.drew ?_) | (with_reducible refine Fr.drewN ?_ _) | (with_reducible refine Fr.alloc ?_ _) | (with_reducible refine Fr.set ?_ _ _ (by first | (intros; omega) | (simp; done) | (simp; omega))) | (with_reducible refine Fr.via ?_ (by assumption)) | (with_reducible refine Fr.comp ?_ (by assumption)))))) (HX.out.2.2.fr (S := Nil) (by (repeat (first | (with_reducible exact Fr.refl _ _) | (with_reducible assumption) | (with_reducible exact Fr.of_nil (by assumption)) | (with_reducible refine Fr.drew ?_) | (with_reducible refine Fr.drewN ?_ _) | (with_reducible refine Fr.alloc ?_ _) | (with_reducible refine Fr.set ?_ _ _ (by first | (intros; omega) | (simp; done) | (simp; omega))) | (with_reducible refine Fr.via ?_ (by assumption)) | (with_reducible refine Fr.comp ?_ (by assumption))))) (fun _ q => q.elim))).mono ?_
        rintro e w6 ⟨rfl, h6, f6⟩
        have g6 : Fr (fun b => b = cb) wr w6 := Fr.comp (S := fun b => b = cb) (Fr.of_nil (by (repeat (first | (with_reducible exact Fr.refl _ _) | (with_reducible assumption) | (with_reducible exact Fr.of_nil (by assumption)) | (with_reducible refine Fr.drew ?_) | (with_reducible refine Fr.drewN ?_ _) | (with_reducible refine Fr.alloc ?_ _) | (with_reducible refine Fr.set ?_ _ _ (by first | (intros; omega) | (simp; done) | (simp; omega))) | (with_reducible refine Fr.via ?_ (by assumption)) | (with_reducible refine Fr.comp ?_ (by assumption)))))) f6
        have H6 := Lib.hid (And.intro h6 g6)
        clear h6 f6 g6
        go_wp2
        go_roundg (nk - (kk + 1))
        case rel => exact ⟨kk + 1, rfl, by omega, by simp, Lib.hid ⟨by rw [HX.out.1]; exact H6.out.1, HS.out.2.comp H6.out.2⟩⟩
        case measure => omega
      · have j1 : ¬ (kk : Int) < (nk : Int) := by omega
        obtain rfl : nk = kk := by omega
        obtain ⟨W4, hW4⟩ : ∃ W, W = wr := ⟨_, rfl⟩
        subst hW4
        have hk4 : KAt W4 cb cm (arK cm ks (arB cm bs s1)) := by
          have h := HS.out.1
          rw [List.take_of_length_le (by rw [H0.out.2.2.2.2.2.2.2.2.2.2.1]; exact Nat.le_refl _)] at h
          exact h
        have b4 := HS.out.2.blk H3.out.2.2 (fun q => by have q' : T = cb := q; omega)
        have y7 := b4.cell 7
        simp at y7
        have yl4 := b4.lt
        have H4 := Lib.hid (And.intro hk4 (H3.out.2.1.comp HS.out.2))
        clear hk4 b4 y5 yl3 hlt hk j0 j1
        go_wp2_with fail
        go_loopg [77] na (fun g iv wr => ∃ k : Nat, g = na - k ∧ k ≤ na ∧ iv = .int .i64 (k : Int) ∧ Hid (KAt wr cb cm (arA cm (al.take k) (arK cm ks (arB cm bs s1))) ∧ Fr (fun b => b = cb) W4 wr))
        case atStart => exact ⟨0, rfl, by omega, rfl, Lib.hid ⟨by rw [List.take_zero, arA]; exact H4.out.1, Fr.refl _ _⟩⟩
        case round =>
          obtain ⟨kk, rfl, hk, rfl, HS⟩ := hrel
          have j0 : (0 : Int) ≤ (kk : Int) := by omega
          by_cases hlt : kk < na
          · have hkL : kk < al.length := by rw [H0.out.2.2.2.2.2.2.2.2.2.2.2.2.1]; exact hlt
            have wkk : IntKind.i64.wrap ((kk : Int) + 1) = (kk : Int) + 1 := by rw [IntKind.wrap_i64]; omega
            have j1 : (kk : Int) < (na : Int) := by omega
            have fwr : Fr (fun b => b = cb) w wr := H4.out.2.comp HS.out.2
            obtain ⟨b, off, rfl, hbx, hc⟩ := (H0.out.2.2.2.2.2.2.1.fr fwr (fun _ q => q)).at hlt
            have hAA := lawA.fr (H0.out.2.2.2.2.2.2.2.1 kk hkL) fwr (fun _ q => q)
            obtain ⟨tk, tn, tf, tb, pa, pn, pc, k', nm', fl', bi', e0, m0, d0, e1, m1, d1, e2, m2, d2, e3, m3, d3, ec⟩ := hAA.formA
            rw [ec] at hc hAA
            obtain ⟨hrp, hE, etn, etk⟩ := hAA.parts
            have hpn : al[kk].names.length = pn := by
              obtain ⟨a9, c9, e9, _⟩ := hrp
              cases e9
              rfl
            obtain ⟨x, hx⟩ : ∃ x, al[kk].name = x := ⟨_, rfl⟩
            rw [hx] at etn
            subst etn
            obtain ⟨s2, hs2⟩ : ∃ s2, arA cm (al.take kk) (arK cm ks (arB cm bs s1)) = s2 := ⟨_, rfl⟩
            have hcs := arA_take cm hkL (arK cm ks (arB cm bs s1))
            rw [hs2] at hcs
            have hxl : x.length ≤ maxLen := by rw [← hx]; exact HO.out.2.2.2.1 _ (List.getElem_mem hkL)
            have hask : askA cm al[kk] s2 = if tk = 0 then askF (decide ((pn : Int) = cm x)) s2 11 x else s2 := by unfold askA; rw [hpn, hx, etk]
            rw [hask] at hcs
            have hks2 : KAt wr cb cm s2 := hs2 ▸ HS.out.1
            have HX := Lib.hid (And.intro hcs (And.intro (HO.out.2.2.1 _ (List.getElem_mem hkL)) (And.intro hE hks2)))
            have p0 := hc 0 _ rfl
            have p1 := hc 1 _ rfl
            have p2 := hc 2 _ rfl
            have p3 := hc 3 _ rfl
            have p4 := hc 4 _ rfl
            have p5 := hc 5 _ rfl
            have p6 := hc 6 _ rfl
            have p7 := hc 7 _ rfl
            have p8 := hc 8 _ rfl
            have p9 := hc 9 _ rfl
            have p10 := hc 10 _ rfl
            have p11 := hc 11 _ rfl
            have p12 := hc 12 _ rfl
            simp only [Nat.add_zero] at p0
            have hcl := hks2.lt
            have hbl : b < wr.heap.size := World.block_lt_of_cell? _ _ p0
            obtain ⟨T7, hT7⟩ : ∃ T7, wr.heap.size = T7 := ⟨_, rfl⟩
            have hcT : cb < T7 := by omega
            have hbT : b < T7 := by omega
            clear hc ec hAA hrp hE hpn hx hs2 hcs hask hks2 fwr y7 yl4 etk
            go_upto_region 19 with fail
            try rw [hT7]
            obtain ⟨W7, hW7⟩ : ∃ W7, wr.alloc (.cells #[.int .i64 (tk : Int), .string ⟨x.toArray⟩, .bool tf, .int .u64 (tb : Int), .slice pa pn pc, .int .i64 (k' : Int), .string nm', .bool fl', .int .u64 (bi' : Int), .slice e0 m0 d0, .slice e1 m1 d1, .slice e2 m2 d2, .slice e3 m3 d3] 47) = W7 := ⟨_, rfl⟩
            rw [hW7]
            have f7 : Fr Nil wr W7 := by rw [← hW7]; (repeat (first | (with_reducible exact Fr.refl _ _) | (with_reducible assumption) | (with_reducible exact Fr.of_nil (by assumption)) | (with_reducible refine Fr.drew ?_) | (with_reducible refine Fr.drewN ?_ _) | (with_reducible refine Fr.alloc ?_ _) | (with_reducible refine Fr.set ?_ _ _ (by first | (intros; omega) | (simp; done) | (simp; omega))) | (with_reducible refine Fr.via ?_ (by assumption)) | (with_reducible refine Fr.comp ?_ (by assumption))))
            have b7 : Blk W7 T7 #[.int .i64 (tk : Int), .string ⟨x.toArray⟩, .bool tf, .int .u64 (tb : Int), .slice pa pn pc, .int .i64 (k' : Int), .string nm', .bool fl', .int .u64 (bi' : Int), .slice e0 m0 d0, .slice e1 m1 d1, .slice e2 m2 d2, .slice e3 m3 d3] 47 := by rw [← hW7, ← hT7]; exact Blk.new _ _ _
            have H7 := Lib.hid (And.intro f7 (And.intro b7 (HX.out.2.2.2.fr f7)))
            have x0 := b7.cell 0
            have x1 := b7.cell 1
            have x4 := b7.cell 4
            simp at x0 x1 x4
            have xl := b7.lt
            clear hW7 f7 b7 hT7 p0 p1 p2 p3 p4 p5 p6 p7 p8 p9 p10 p11 p12
            by_cases ht : tk = 0
            · subst ht
              obtain ⟨ok, hok⟩ : ∃ ok : Bool, ((pn : Int) == cm x) = ok := ⟨_, rfl⟩
              have hok2 : decide ((pn : Int) = cm x) = ok := by rw [← hok]; rfl
              obtain ⟨mc, K, hb1, hm1⟩ := H7.out.2.2
              have z0 := hb1.cell 0
              simp at z0
              have zl := hb1.lt
              have HV := Lib.hid hm1
              have hL : (Instr.lookup 61 (.map (some mc)) (.string ⟨x.toArray⟩) false).run Tryd.prog W7.drew = .ok (.int .i64 (cm x)) W7.drew := SMap.run (w := W7.drew) Tryd.underlying61 (hm1.fr (S := Nil) (Fr.drew (Fr.refl _ _)) (fun q => q)) hxl
              clear hb1 hm1
              go_upto_region 20 with fail
              go_still_tail 14, (by kernel_rfl)
              change wpList _ _ _ _ _ W7.drew
              go_wp2_with (first
                | (at_lookup; refine wp_lookS _ Tryd.underlying61 rfl _ _ rfl mc K cm rfl (HV.out.fr (S := Nil) (by (repeat (first | (with_reducible exact Fr.refl _ _) | (with_reducible assumption) | (with_reducible exact Fr.of_nil (by assumption)) | (with_reducible refine Fr.drew ?_) | (with_reducible refine Fr.drewN ?_ _) | (with_reducible refine Fr.alloc ?_ _) | (with_reducible refine Fr.set ?_ _ _ (by first | (intros; omega) | (simp; done) | (simp; omega))) | (with_reducible refine Fr.via ?_ (by assumption)) | (with_reducible refine Fr.comp ?_ (by assumption))))) (fun q => q)) x rfl hxl ?_)
                | fail)
              refine (ask_any (H7.out.2.2.fr (by (repeat (first | (with_reducible exact Fr.refl _ _) | (with_reducible assumption) | (with_reducible exact Fr.of_nil (by assumption)) | (with_reducible refine Fr.drew ?_) | (with_reducible refine Fr.drewN ?_ _) | (with_reducible refine Fr.alloc ?_ _) | (with_reducible refine Fr.set ?_ _ _ (by first | (intros; omega) | (simp; done) | (simp; omega))) | (with_reducible refine Fr.via ?_ (by assumption)) | (with_reducible refine Fr.comp ?_ (by assumption)))))) ok 11 x).mono ?_
              rintro e w8 ⟨rfl, h8, f8⟩
              have g8 : Fr (fun b => b = cb) W7 w8 := Fr.comp (S := fun b => b = cb) (by (repeat (first | (with_reducible exact Fr.refl _ _) | (with_reducible assumption) | (with_reducible exact Fr.of_nil (by assumption)) | (with_reducible refine Fr.drew ?_) | (with_reducible refine Fr.drewN ?_ _) | (with_reducible refine Fr.alloc ?_ _) | (with_reducible refine Fr.set ?_ _ _ (by first | (intro _; exact rfl) | (intro _; exact .inl rfl) | (intro _; exact .inr rfl) | (intro q; exact absurd q (Nat.lt_irrefl _)) | (intro q; simp at q; omega))) | (with_reducible refine Fr.via ?_ (by assumption)) | (with_reducible refine Fr.comp ?_ (by assumption))))) f8
              have b8 := g8.blk H7.out.2.1 (fun q => by have q' : T7 = cb := q; omega)
              have H8 := Lib.hid (And.intro h8 ((Fr.of_nil H7.out.1).comp g8))
              clear h8 f8 g8 x0 x1 x4 xl z0 zl
              have x5 := b8.cell 5
              have x6 := b8.cell 6
              have x7 := b8.cell 7
              have x8 := b8.cell 8
              have x9 := b8.cell 9
              have x10 := b8.cell 10
              have x11 := b8.cell 11
              have x12 := b8.cell 12
              simp at x5 x6 x7 x8 x9 x10 x11 x12
              have xl := b8.lt
              clear b8
              go_wp2_with fail
              refine (HX.out.2.1 _ cb _ _ H8.out.1 (HX.out.2.2.1.fr H8.out.2 (fun _ q => q))).mono ?_
              rintro e w9 ⟨rfl, h9, f9⟩
              have H9 := Lib.hid (And.intro h9 (H8.out.2.comp f9))
              clear h9 f9
              go_wp2
              go_roundg (na - (kk + 1))
              case rel => exact ⟨kk + 1, rfl, by omega, by simp, Lib.hid ⟨by rw [HX.out.1, if_pos trivial, hok2]; exact H9.out.1, HS.out.2.comp H9.out.2⟩⟩
              case measure => omega
            · have dt : ((tk : Int) == 0) = false := by rw [beq_eq_false_iff_ne]; omega
              have HT := Lib.hid ht
              have b8 := H7.out.2.1
              clear ht x0 x1 x4 xl
              have x0 := b8.cell 0
              have x5 := b8.cell 5
              have x6 := b8.cell 6
              have x7 := b8.cell 7
              have x8 := b8.cell 8
              have x9 := b8.cell 9
              have x10 := b8.cell 10
              have x11 := b8.cell 11
              have x12 := b8.cell 12
              simp at x0 x5 x6 x7 x8 x9 x10 x11 x12
              have xl := b8.lt
              clear b8
              go_wp2_with fail
              refine (HX.out.2.1 _ cb _ _ (H7.out.2.2.fr (by (repeat (first | (with_reducible exact Fr.refl _ _) | (with_reducible assumption) | (with_reducible exact Fr.of_nil (by assumption)) | (with_reducible refine Fr.drew ?_) | (with_reducible refine Fr.drewN ?_ _) | (with_reducible refine Fr.alloc ?_ _) | (with_reducible refine Fr.set ?_ _ _ (by first | (intros; omega) | (simp; done) | (simp; omega))) | (with_reducible refine Fr.via ?_ (by assumption)) | (with_reducible refine Fr.comp ?_ (by assumption)))))) (HX.out.2.2.1.fr (S := Nil) (H7.out.1.comp (by (repeat (first | (with_reducible exact Fr.refl _ _) | (with_reducible assumption) | (with_reducible exact Fr.of_nil (by assumption)) | (with_reducible refine Fr.drew ?_) | (with_reducible refine Fr.drewN ?_ _) | (with_reducible refine Fr.alloc ?_ _) | (with_reducible refine Fr.set ?_ _ _ (by first | (intros; omega) | (simp; done) | (simp; omega))) | (with_reducible refine Fr.via ?_ (by assumption)) | (with_reducible refine Fr.comp ?_ (by assumption)))))) (fun _ q => q.elim))).mono ?_
              rintro e w9 ⟨rfl, h9, f9⟩
              have g9 : Fr (fun b => b = cb) W7 w9 := Fr.comp (S := fun b => b = cb) (Fr.of_nil (by (repeat (first | (with_reducible exact Fr.refl _ _) | (with_reducible assumption) | (with_reducible exact Fr.of_nil (by assumption)) | (with_reducible refine Fr.drew ?_) | (with_reducible refine Fr.drewN ?_ _) | (with_reducible refine Fr.alloc ?_ _) | (with_reducible refine Fr.set ?_ _ _ (by first | (intros; omega) | (simp; done) | (simp; omega))) | (with_reducible refine Fr.via ?_ (by assumption)) | (with_reducible refine Fr.comp ?_ (by assumption)))))) f9
              have H9 := Lib.hid (And.intro h9 ((Fr.of_nil H7.out.1).comp g9))
              clear h9 f9 g9
              go_wp2
              go_roundg (na - (kk + 1))
              case rel => exact ⟨kk + 1, rfl, by omega, by simp, Lib.hid ⟨by rw [HX.out.1, if_neg HT.out]; exact H9.out.1, HS.out.2.comp H9.out.2⟩⟩
              case measure => omega
          · have j1 : ¬ (kk : Int) < (na : Int) := by omega
            obtain rfl : na = kk := by omega
            have HS1 : Hid (KAt wr cb cm (arE cm (.mk k nm fl bi ps ks bs al) s)) := Lib.hid (by
              have h := HS.out.1
              rw [List.take_of_length_le (by rw [H0.out.2.2.2.2.2.2.2.2.2.2.2.2.1]; exact Nat.le_refl _)] at h
              rw [H0.out.2.2.2.2.2.2.2.2.1]
              exact h)
            go_wp2
            go_end0
            exact ⟨rfl, HS1.out, H4.out.2.comp HS.out.2⟩

theorem okA_nm : ∀ {al : List TA}, okA al → ∀ a ∈ al, a.name.length ≤ maxLen := fun h a ha => (okA_all h ha).1
/-- The checker, at every expression. -/
theorem ar_all : ∀ (m : Nat) (e : TE), szE e ≤ m → okE e → wsE e → ArOk cm e := by
  intro m
  induction m with
  | zero =>
    intro e he
    cases e with
    | mk k nm fl bi ps ks bs al =>
      have e1 : szE (.mk k nm fl bi ps ks bs al) = 1 + szK ks + szB bs + szA al := rfl
      omega
  | succ m ih =>
    intro e he ho hs
    cases e with
    | mk k nm fl bi ps ks bs al =>
      have e1 : szE (.mk k nm fl bi ps ks bs al) = 1 + szK ks + szB bs + szA al := rfl
      unfold okE at ho
      unfold wsE at hs
      obtain ⟨hn, hop, hok, hob, hoa⟩ := ho
      obtain ⟨⟨q1, q7, q8⟩, hsk, hsb, hsa⟩ := hs
      exact arexpr_any hn (okA_nm hoa) q8
        (fun e h => ih e (by have := mem_szK h; omega) (okK_mem hok h) (wsK_mem hsk h))
        (fun b h => ih b.body (by have := mem_szB h; omega) (okB_mem hob h).2.2 (wsB_mem hsb h))
        (fun b h => ih b.body (by have := mem_szA h; omega) (okA_all hoa h).2.2 (wsA_mem hsa h))

end
end Go.Proofs.YtpjlibbdngnnnaaDoor
