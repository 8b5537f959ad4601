/-
  Arity (layer 11): how many kids an operation takes; the checker's state; a fault, unless it is so. No conditions.
-/
import Derived.Test.YtpjlibbdngnnnaaDoorSpY
import Derived.Test.YtpjlibbdngnnnaaDoorMapLit
namespace Go.Proofs.YtpjlibbdngnnnaaDoor
set_option linter.unusedSimpArgs false
set_option linter.unusedVariables false
open Go.RowKit

def takeMap : List (List UInt8 × Int) := [([43], 2), ([45], 2), ([42], 2), ([47], 2), ([37], 2), ([61, 61], 2), ([60], 2), ([43, 46], 2), ([45, 46], 2), ([42, 46], 2), ([47, 46], 2), ([61, 61, 46], 2), ([60, 46], 2), ([119, 101, 97, 107], 3), ([115, 101, 113], 2), ([100, 101, 114, 101, 102], 1), ([102, 108, 111, 97, 116], 1), ([116, 114, 117, 110, 99], 1)]
def takeM (k : Nat) : List (List UInt8 × Int) := takeMap.take k
/-- How many kids an operation takes. -/
def takesF (n : List UInt8) : Int := (askL takeMap n).getD 0
theorem zeroInt : (zeroValue 3).run Tryd.prog = fun w => .ok (.int .i64 0) w := by kernel_rfl
theorem takes_rng (n : List UInt8) : 0 ≤ takesF n ∧ takesF n ≤ 3 := by
  unfold takesF askL
  cases h : takeMap.find? (fun p => p.1 == n) with
  | none => simp
  | some p =>
    have hm := List.mem_of_find?_eq_some h
    have key : ∀ p ∈ takeMap, 0 ≤ p.2 ∧ p.2 ≤ 3 := by decide
    exact key p hm
set_option maxRecDepth 100000 in
set_option maxHeartbeats 2000000 in
theorem takes_any (n : List UInt8) (w : World) :
    Calls Tryd.prog 35 #[.string ⟨n.toArray⟩] w fun e w' => e = .returned (.int .i64 (takesF n)) ∧ Fr Nil w w' := by
  have m0 : ∀ w : World, (Instr.makeMap 61 none).run Tryd.prog w = .ok (.map (some w.heap.size)) (w.alloc (.map (ents (takeM 0)) 0)) := fun w => run_makeMap_plain w _
  have m1 : (Instr.mapUpdate 61 (.map (some w.heap.size)) (.string ⟨#[43]⟩) (.int .i64 2)).run Tryd.prog (w.alloc (.map (ents (takeM 0)) 0)) = .ok () (w.alloc (.map (ents (takeM 1)) 1)) := run_ins w _ _ _ Tryd.underlying61 Tryd.underlying9 (takeM 0) [43] 2 (by decide) (takeM 1) (by decide) 0 (by decide)
  have m2 : (Instr.mapUpdate 61 (.map (some w.heap.size)) (.string ⟨#[45]⟩) (.int .i64 2)).run Tryd.prog (w.alloc (.map (ents (takeM 1)) 1)) = .ok () (w.alloc (.map (ents (takeM 2)) 2)) := run_ins w _ _ _ Tryd.underlying61 Tryd.underlying9 (takeM 1) [45] 2 (by decide) (takeM 2) (by decide) 1 (by decide)
  have m3 : (Instr.mapUpdate 61 (.map (some w.heap.size)) (.string ⟨#[42]⟩) (.int .i64 2)).run Tryd.prog (w.alloc (.map (ents (takeM 2)) 2)) = .ok () (w.alloc (.map (ents (takeM 3)) 3)) := run_ins w _ _ _ Tryd.underlying61 Tryd.underlying9 (takeM 2) [42] 2 (by decide) (takeM 3) (by decide) 2 (by decide)
  have m4 : (Instr.mapUpdate 61 (.map (some w.heap.size)) (.string ⟨#[47]⟩) (.int .i64 2)).run Tryd.prog (w.alloc (.map (ents (takeM 3)) 3)) = .ok () (w.alloc (.map (ents (takeM 4)) 4)) := run_ins w _ _ _ Tryd.underlying61 Tryd.underlying9 (takeM 3) [47] 2 (by decide) (takeM 4) (by decide) 3 (by decide)
  have m5 : (Instr.mapUpdate 61 (.map (some w.heap.size)) (.string ⟨#[37]⟩) (.int .i64 2)).run Tryd.prog (w.alloc (.map (ents (takeM 4)) 4)) = .ok () (w.alloc (.map (ents (takeM 5)) 5)) := run_ins w _ _ _ Tryd.underlying61 Tryd.underlying9 (takeM 4) [37] 2 (by decide) (takeM 5) (by decide) 4 (by decide)
  have m6 : (Instr.mapUpdate 61 (.map (some w.heap.size)) (.string ⟨#[61, 61]⟩) (.int .i64 2)).run Tryd.prog (w.alloc (.map (ents (takeM 5)) 5)) = .ok () (w.alloc (.map (ents (takeM 6)) 6)) := run_ins w _ _ _ Tryd.underlying61 Tryd.underlying9 (takeM 5) [61, 61] 2 (by decide) (takeM 6) (by decide) 5 (by decide)
  have m7 : (Instr.mapUpdate 61 (.map (some w.heap.size)) (.string ⟨#[60]⟩) (.int .i64 2)).run Tryd.prog (w.alloc (.map (ents (takeM 6)) 6)) = .ok () (w.alloc (.map (ents (takeM 7)) 7)) := run_ins w _ _ _ Tryd.underlying61 Tryd.underlying9 (takeM 6) [60] 2 (by decide) (takeM 7) (by decide) 6 (by decide)
  have m8 : (Instr.mapUpdate 61 (.map (some w.heap.size)) (.string ⟨#[43, 46]⟩) (.int .i64 2)).run Tryd.prog (w.alloc (.map (ents (takeM 7)) 7)) = .ok () (w.alloc (.map (ents (takeM 8)) 8)) := run_ins w _ _ _ Tryd.underlying61 Tryd.underlying9 (takeM 7) [43, 46] 2 (by decide) (takeM 8) (by decide) 7 (by decide)
  have m9 : (Instr.mapUpdate 61 (.map (some w.heap.size)) (.string ⟨#[45, 46]⟩) (.int .i64 2)).run Tryd.prog (w.alloc (.map (ents (takeM 8)) 8)) = .ok () (w.alloc (.map (ents (takeM 9)) 9)) := run_ins w _ _ _ Tryd.underlying61 Tryd.underlying9 (takeM 8) [45, 46] 2 (by decide) (takeM 9) (by decide) 8 (by decide)
  have m10 : (Instr.mapUpdate 61 (.map (some w.heap.size)) (.string ⟨#[42, 46]⟩) (.int .i64 2)).run Tryd.prog (w.alloc (.map (ents (takeM 9)) 9)) = .ok () (w.alloc (.map (ents (takeM 10)) 10)) := run_ins w _ _ _ Tryd.underlying61 Tryd.underlying9 (takeM 9) [42, 46] 2 (by decide) (takeM 10) (by decide) 9 (by decide)
  have m11 : (Instr.mapUpdate 61 (.map (some w.heap.size)) (.string ⟨#[47, 46]⟩) (.int .i64 2)).run Tryd.prog (w.alloc (.map (ents (takeM 10)) 10)) = .ok () (w.alloc (.map (ents (takeM 11)) 11)) := run_ins w _ _ _ Tryd.underlying61 Tryd.underlying9 (takeM 10) [47, 46] 2 (by decide) (takeM 11) (by decide) 10 (by decide)
  have m12 : (Instr.mapUpdate 61 (.map (some w.heap.size)) (.string ⟨#[61, 61, 46]⟩) (.int .i64 2)).run Tryd.prog (w.alloc (.map (ents (takeM 11)) 11)) = .ok () (w.alloc (.map (ents (takeM 12)) 12)) := run_ins w _ _ _ Tryd.underlying61 Tryd.underlying9 (takeM 11) [61, 61, 46] 2 (by decide) (takeM 12) (by decide) 11 (by decide)
  have m13 : (Instr.mapUpdate 61 (.map (some w.heap.size)) (.string ⟨#[60, 46]⟩) (.int .i64 2)).run Tryd.prog (w.alloc (.map (ents (takeM 12)) 12)) = .ok () (w.alloc (.map (ents (takeM 13)) 13)) := run_ins w _ _ _ Tryd.underlying61 Tryd.underlying9 (takeM 12) [60, 46] 2 (by decide) (takeM 13) (by decide) 12 (by decide)
  have m14 : (Instr.mapUpdate 61 (.map (some w.heap.size)) (.string ⟨#[119, 101, 97, 107]⟩) (.int .i64 3)).run Tryd.prog (w.alloc (.map (ents (takeM 13)) 13)) = .ok () (w.alloc (.map (ents (takeM 14)) 14)) := run_ins w _ _ _ Tryd.underlying61 Tryd.underlying9 (takeM 13) [119, 101, 97, 107] 3 (by decide) (takeM 14) (by decide) 13 (by decide)
  have m15 : (Instr.mapUpdate 61 (.map (some w.heap.size)) (.string ⟨#[115, 101, 113]⟩) (.int .i64 2)).run Tryd.prog (w.alloc (.map (ents (takeM 14)) 14)) = .ok () (w.alloc (.map (ents (takeM 15)) 15)) := run_ins w _ _ _ Tryd.underlying61 Tryd.underlying9 (takeM 14) [115, 101, 113] 2 (by decide) (takeM 15) (by decide) 14 (by decide)
  have m16 : (Instr.mapUpdate 61 (.map (some w.heap.size)) (.string ⟨#[100, 101, 114, 101, 102]⟩) (.int .i64 1)).run Tryd.prog (w.alloc (.map (ents (takeM 15)) 15)) = .ok () (w.alloc (.map (ents (takeM 16)) 16)) := run_ins w _ _ _ Tryd.underlying61 Tryd.underlying9 (takeM 15) [100, 101, 114, 101, 102] 1 (by decide) (takeM 16) (by decide) 15 (by decide)
  have m17 : (Instr.mapUpdate 61 (.map (some w.heap.size)) (.string ⟨#[102, 108, 111, 97, 116]⟩) (.int .i64 1)).run Tryd.prog (w.alloc (.map (ents (takeM 16)) 16)) = .ok () (w.alloc (.map (ents (takeM 17)) 17)) := run_ins w _ _ _ Tryd.underlying61 Tryd.underlying9 (takeM 16) [102, 108, 111, 97, 116] 1 (by decide) (takeM 17) (by decide) 16 (by decide)
  have m18 : (Instr.mapUpdate 61 (.map (some w.heap.size)) (.string ⟨#[116, 114, 117, 110, 99]⟩) (.int .i64 1)).run Tryd.prog (w.alloc (.map (ents (takeM 17)) 17)) = .ok () (w.alloc (.map (ents (takeM 18)) 18)) := run_ins w _ _ _ Tryd.underlying61 Tryd.underlying9 (takeM 17) [116, 114, 117, 110, 99] 1 (by decide) (takeM 18) (by decide) 17 (by decide)
  have mL := run_look w _ _ _ Tryd.underlying61 Tryd.underlying9 zeroInt (takeM 18) 18 ⟨n.toArray⟩
  rw [show (askL (takeM 18) (ByteArray.mk n.toArray).data.toList).getD 0 = takesF n from rfl] at mL
  go_enter Tryd.func35, Tryd.ntmps35
  go_wp2
  go_ret
  exact ⟨rfl, by (repeat (first | (with_reducible exact Fr.refl _ _) | (with_reducible assumption) | (with_reducible exact Fr.of_nil (by assumption)) | (with_reducible refine Fr.drew ?_) | (with_reducible refine Fr.drewN ?_ _) | (with_reducible refine Fr.alloc ?_ _) | (with_reducible refine Fr.set ?_ _ _ (by first | (intros; omega) | (simp; done) | (simp; omega))) | (with_reducible refine Fr.via ?_ (by assumption)) | (with_reducible refine Fr.comp ?_ (by assumption))))⟩
/-- The checker's state: what constructors take; the first fault. -/
def KAt (w : World) (cb : Nat) (cm : List UInt8 → Int) (s : FS) : Prop := ∃ mc K, Blk w cb #[.map (some mc), .int .i64 (s.1 : Int), .string ⟨s.2.toArray⟩] 83 ∧ SMap w mc K cm
theorem KAt.fr {w w' : World} {cb : Nat} {cm : List UInt8 → Int} {s : FS} (h : KAt w cb cm s) (f : Fr Nil w w') : KAt w' cb cm s := by
  obtain ⟨mc, K, h1, h2⟩ := h
  exact ⟨mc, K, f.blk h1 (fun q => q), h2.fr f (fun q => q)⟩
theorem KAt.lt {w : World} {cb : Nat} {cm : List UInt8 → Int} {s : FS} (h : KAt w cb cm s) : cb < w.heap.size := by
  obtain ⟨mc, K, h1, h2⟩ := h
  exact h1.lt
/-- A fault, unless it is so. -/
def askF (ok : Bool) (s : FS) (e : Nat) (n : List UInt8) : FS := if ok then s else fltS s e n
set_option maxRecDepth 100000 in
theorem ask_cell {w : World} {cb : Nat} {cm : List UInt8 → Int} {s : FS} (h : KAt w cb cm s) (ok : Bool) (e : Nat) (n : List UInt8) :
    Calls Tryd.prog 74 #[.pointer (some ⟨cb, 0, none⟩), .bool ok, .int .i64 (e : Int), .string ⟨n.toArray⟩] w fun r w' => r = .returned (.tuple #[]) ∧ KAt w' cb cm (askF ok s e n) ∧ Fr (fun b => b = cb) w w' ∧ w'.cell? ⟨cb, 0, none⟩ = w.cell? ⟨cb, 0, none⟩ := by
  obtain ⟨mc, K, h1, h2⟩ := h
  have c1 := h1.cell 1
  have c2 := h1.cell 2
  simp at c1 c2
  have cf := h1.free
  have cl := h1.lt
  have hne := h2.ne h1
  have HB := Lib.hid (And.intro h1 (And.intro h2 (show KAt w cb cm s from ⟨mc, K, h1, h2⟩)))
  clear h1 h2
  cases ok with
  | true =>
    go_enter Tryd.func74, Tryd.ntmps74
    go_wp2
    go_end0
    exact ⟨rfl, HB.out.2.2.fr (by (repeat (first | (with_reducible exact Fr.refl _ _) | (with_reducible assumption) | (with_reducible exact Fr.of_nil (by assumption)) | (with_reducible refine Fr.drew ?_) | (with_reducible refine Fr.drewN ?_ _) | (with_reducible refine Fr.alloc ?_ _) | (with_reducible refine Fr.set ?_ _ _ (by first | (intros; omega) | (simp; done) | (simp; omega))) | (with_reducible refine Fr.via ?_ (by assumption)) | (with_reducible refine Fr.comp ?_ (by assumption))))), by (repeat (first | (with_reducible exact Fr.refl _ _) | (with_reducible assumption) | (with_reducible exact Fr.of_nil (by assumption)) | (with_reducible refine Fr.drew ?_) | (with_reducible refine Fr.drewN ?_ _) | (with_reducible refine Fr.alloc ?_ _) | (with_reducible refine Fr.set ?_ _ _ (by first | (intro _; exact rfl) | (intro _; exact .inl rfl) | (intro _; exact .inr rfl) | (intro q; exact absurd q (Nat.lt_irrefl _)) | (intro q; simp at q; omega))) | (with_reducible refine Fr.via ?_ (by assumption)) | (with_reducible refine Fr.comp ?_ (by assumption)))), by simp⟩
  | false =>
    have e0 : askF false s e n = fltS s e n := rfl
    rw [e0]
    clear e0
    by_cases he : s.1 = 0
    · have e1 : fltS s e n = (e, n) := by unfold fltS; rw [if_pos he]
      rw [e1]
      have d1 : ((s.1 : Int) == 0) = true := by simp [he]
      clear he e1
      go_enter Tryd.func74, Tryd.ntmps74
      go_wp2
      go_end0
      have fz : Fr (fun b => b = cb) w ((w.setCell ⟨cb, 1, none⟩ (.int .i64 (e : Int))).setCell ⟨cb, 2, none⟩ (.string ⟨n.toArray⟩)) := by (repeat (first | (with_reducible exact Fr.refl _ _) | (with_reducible assumption) | (with_reducible exact Fr.of_nil (by assumption)) | (with_reducible refine Fr.drew ?_) | (with_reducible refine Fr.drewN ?_ _) | (with_reducible refine Fr.alloc ?_ _) | (with_reducible refine Fr.set ?_ _ _ (by first | (intro _; exact rfl) | (intro _; exact .inl rfl) | (intro _; exact .inr rfl) | (intro q; exact absurd q (Nat.lt_irrefl _)) | (intro q; simp at q; omega))) | (with_reducible refine Fr.via ?_ (by assumption)) | (with_reducible refine Fr.comp ?_ (by assumption))))
      have bz : Blk ((w.setCell ⟨cb, 1, none⟩ (.int .i64 (e : Int))).setCell ⟨cb, 2, none⟩ (.string ⟨n.toArray⟩)) cb #[.map (some mc), .int .i64 (e : Int), .string ⟨n.toArray⟩] 83 := by
        (unfold Blk; simp (disch := first | omega | (simp; done) | (simp; omega)) only [hp_drew, hp_drewN, hp_alloc, hp_other, hp_same, hp_new, upd_cells, Option.map_some, (HB.out.1).eq])
        simp
      exact ⟨rfl, ⟨mc, K, bz, HB.out.2.1.fr fz hne⟩, fz, by rw [bz.cell, HB.out.1.cell]; simp⟩
    · have e1 : fltS s e n = s := by unfold fltS; rw [if_neg he]
      rw [e1]
      have d1 : ((s.1 : Int) == 0) = false := beq_false_of_ne (by omega)
      clear he e1
      go_enter Tryd.func74, Tryd.ntmps74
      go_wp2
      go_end0
      exact ⟨rfl, HB.out.2.2.fr (by (repeat (first | (with_reducible exact Fr.refl _ _) | (with_reducible assumption) | (with_reducible exact Fr.of_nil (by assumption)) | (with_reducible refine Fr.drew ?_) | (with_reducible refine Fr.drewN ?_ _) | (with_reducible refine Fr.alloc ?_ _) | (with_reducible refine Fr.set ?_ _ _ (by first | (intros; omega) | (simp; done) | (simp; omega))) | (with_reducible refine Fr.via ?_ (by assumption)) | (with_reducible refine Fr.comp ?_ (by assumption))))), by (repeat (first | (with_reducible exact Fr.refl _ _) | (with_reducible assumption) | (with_reducible exact Fr.of_nil (by assumption)) | (with_reducible refine Fr.drew ?_) | (with_reducible refine Fr.drewN ?_ _) | (with_reducible refine Fr.alloc ?_ _) | (with_reducible refine Fr.set ?_ _ _ (by first | (intro _; exact rfl) | (intro _; exact .inl rfl) | (intro _; exact .inr rfl) | (intro q; exact absurd q (Nat.lt_irrefl _)) | (intro q; simp at q; omega))) | (with_reducible refine Fr.via ?_ (by assumption)) | (with_reducible refine Fr.comp ?_ (by assumption)))), by simp⟩
theorem ask_any {w : World} {cb : Nat} {cm : List UInt8 → Int} {s : FS} (h : KAt w cb cm s) (ok : Bool) (e : Nat) (n : List UInt8) :
    Calls Tryd.prog 74 #[.pointer (some ⟨cb, 0, none⟩), .bool ok, .int .i64 (e : Int), .string ⟨n.toArray⟩] w fun r w' => r = .returned (.tuple #[]) ∧ KAt w' cb cm (askF ok s e n) ∧ Fr (fun b => b = cb) w w' :=
  (ask_cell h ok e n).mono fun _ _ ⟨h1, h2, h3, _⟩ => ⟨h1, h2, h3⟩
set_option maxRecDepth 100000 in
theorem params_any {w : World} {cb : Nat} {cm : List UInt8 → Int} {s : FS} (h : KAt w cb cm s) (k : Nat) (n : List UInt8) :
    Calls Tryd.prog 75 #[.pointer (some ⟨cb, 0, none⟩), .int .i64 (k : Int), .string ⟨n.toArray⟩] w fun r w' => r = .returned (.tuple #[]) ∧ KAt w' cb cm (askF (decide (k ≤ 24)) s 12 n) ∧ Fr (fun b => b = cb) w w' := by
  have HA := Lib.hid (ask_any h (decide (k ≤ 24)) 12 n)
  obtain ⟨ok, hok⟩ : ∃ ok, decide (k ≤ 24) = ok := ⟨_, rfl⟩
  have hi : decide ((k : Int) ≤ 24) = ok := by rw [← hok]; exact decide_eq_decide.2 (by omega)
  rw [hok] at HA ⊢
  clear h hok
  cases ok with
  | true =>
    have q : (k : Int) ≤ 24 := of_decide_eq_true hi
    clear hi
    go_enter Tryd.func75, Tryd.ntmps75
    go_wp2_with fail
    refine HA.out.mono ?_
    rintro e w2 ⟨rfl, h2, f2⟩
    have H2 := Lib.hid (And.intro h2 f2)
    clear h2 f2
    go_wp2
    go_end0
    exact ⟨rfl, H2.out.1, H2.out.2⟩
  | false =>
    have q : ¬ (k : Int) ≤ 24 := of_decide_eq_false hi
    clear hi
    go_enter Tryd.func75, Tryd.ntmps75
    go_wp2_with fail
    refine HA.out.mono ?_
    rintro e w2 ⟨rfl, h2, f2⟩
    have H2 := Lib.hid (And.intro h2 f2)
    clear h2 f2
    go_wp2
    go_end0
    exact ⟨rfl, H2.out.1, H2.out.2⟩
end Go.Proofs.YtpjlibbdngnnnaaDoor
