/-
  Reading tokens (layer 8): fault, kind, sees, need, token, starts. No conditions.
  Reading tokens (layer 8): need, token, names, starts. No conditions.
  Rows that grow by one (layer 8); names. No conditions.
  Binds and alternatives (layer 8), given what expr does one level deeper. No conditions.
-/
import Derived.Test.YtlnmicddobgppaaGreatDoorParV
import Derived.BigQuiet
import Derived.StillTailTactics
namespace Go.Proofs.YtlnmicddobgppaaGreatDoor
set_option linter.unusedSimpArgs false
set_option linter.unusedVariables false
open Go.RowKit

section
variable {w : World} {pb : Nat} {vT : Value} {L : List TokV} {s : PS}
theorem PAt.facts (h : PAt w pb vT L s) : w.cell? ⟨pb, 0, none⟩ = some vT ∧ w.cell? ⟨pb, 1, none⟩ = some (.int .i64 (s.at_ : Int)) ∧ w.cell? ⟨pb, 2, none⟩ = some (.int .i64 (s.e : Int)) ∧ w.cell? ⟨pb, 3, none⟩ = some (.int .i64 (s.line : Int)) ∧ (∀ o, w.frozen? ⟨pb, o, none⟩ = false) ∧ pb < w.heap.size := by
  have h0 := h.blk.cell 0
  have h1 := h.blk.cell 1
  have h2 := h.blk.cell 2
  have h3 := h.blk.cell 3
  simp at h0 h1 h2 h3
  exact ⟨h0, h1, h2, h3, fun o => h.blk.free o, h.blk.lt⟩
/-- The token at a place. -/
theorem PAt.tok {a : Option Addr} {cap : Nat} (h : PAt w pb (.slice a L.length cap) L s) {i : Nat} (hi : i < L.length) : ∃ b off, a = some ⟨b, off, none⟩ ∧ b < w.heap.size ∧ b ≠ pb ∧ w.cell? ⟨b, off + i * 5, none⟩ = some (.int .i64 L[i].kind) ∧ w.cell? ⟨b, off + i * 5 + 1, none⟩ = some (.string ⟨L[i].text.toArray⟩) ∧ w.cell? ⟨b, off + i * 5 + 2, none⟩ = some (.bool L[i].flt) ∧ w.cell? ⟨b, off + i * 5 + 3, none⟩ = some (.int .u64 (L[i].bits : Int)) ∧ w.cell? ⟨b, off + i * 5 + 4, none⟩ = some (.int .i64 (L[i].line : Int)) := by
  obtain ⟨b, off, rfl, hb, hc⟩ := h.toks.at hi
  have e : L.getD i (none_ 0) = L[i] := by simp [List.getD, hi]
  rw [e] at hc
  have h0 := hc 0 _ rfl
  exact ⟨b, off, rfl, World.block_lt_of_cell? _ _ h0, hb, h0, hc 1 _ rfl, hc 2 _ rfl, hc 3 _ rfl, hc 4 _ rfl⟩
theorem pkind_any (h : PAt w pb vT L s) :
    Calls Tryz.prog 57 #[.pointer (some ⟨pb, 0, none⟩)] w fun e w' => e = .returned (.int .i64 (kindP L s)) ∧ Fr Nil w w' := by
  obtain ⟨a, cap, rfl⟩ := h.toks.shape
  obtain ⟨p0, p1, p2, p3, pf, pl⟩ := h.facts
  obtain ⟨n, hn⟩ : ∃ n, L.length = n := ⟨_, rfl⟩
  by_cases hlt : s.at_ < L.length
  · obtain ⟨b, off, rfl, hb, hbp, t0, t1, t2, t3, t4⟩ := h.tok hlt
    have e : kindP L s = L[s.at_].kind := by simp [kindP, List.getElem?_eq_getElem hlt]
    rw [e]
    rw [hn] at p0 hlt
    generalize L[s.at_].kind = kd at t0 ⊢
    have i1 : (s.at_ : Int) < (n : Int) := by omega
    have i0 : (0 : Int) ≤ (s.at_ : Int) := by omega
    clear h t1 t2 t3 t4 hn p2 p3 e
    go_enter Tryz.func57, Tryz.ntmps57
    go_wp2
    go_quiet (fail)
    go_wp2
    go_quiet (fail)
    go_wp2
    go_ret
    exact ⟨rfl, by (repeat (first | (with_reducible exact Fr.refl _ _) | (with_reducible assumption) | (with_reducible exact Fr.of_nil (by assumption)) | (with_reducible refine Fr.drew ?_) | (with_reducible refine Fr.drewN ?_ _) | (with_reducible refine Fr.alloc ?_ _) | (with_reducible refine Fr.set ?_ _ _ (by first | (intros; omega) | (simp; done) | (simp; omega))) | (with_reducible refine Fr.via ?_ (by assumption)) | (with_reducible refine Fr.comp ?_ (by assumption))))⟩
  · have e : kindP L s = 0 := by simp [kindP, List.getElem?_eq_none (Nat.le_of_not_lt hlt)]
    rw [e]
    rw [hn] at p0 hlt
    have i1 : ¬ (s.at_ : Int) < (n : Int) := by omega
    clear h hn p2 p3 e
    go_enter Tryz.func57, Tryz.ntmps57
    go_wp2
    go_quiet (fail)
    go_wp2
    go_ret
    exact ⟨rfl, by (repeat (first | (with_reducible exact Fr.refl _ _) | (with_reducible assumption) | (with_reducible exact Fr.of_nil (by assumption)) | (with_reducible refine Fr.drew ?_) | (with_reducible refine Fr.drewN ?_ _) | (with_reducible refine Fr.alloc ?_ _) | (with_reducible refine Fr.set ?_ _ _ (by first | (intros; omega) | (simp; done) | (simp; omega))) | (with_reducible refine Fr.via ?_ (by assumption)) | (with_reducible refine Fr.comp ?_ (by assumption))))⟩
theorem psees_any (x : List UInt8) (h : PAt w pb vT L s) :
    Calls Tryz.prog 25 #[.pointer (some ⟨pb, 0, none⟩), .string ⟨x.toArray⟩] w fun e w' => e = .returned (.bool (seesF L x s)) ∧ Fr Nil w w' := by
  have HP := Lib.hid h
  have HK := Lib.hid (pkind_any h)
  by_cases hk : kindP L s = 5 ∨ kindP L s = 6
  · have hlt : s.at_ < L.length := by rcases hk with q | q <;> exact kind_lt q (by decide)
    obtain ⟨a, cap, rfl⟩ := h.toks.shape
    have e : seesF L x s = (L[s.at_].text == x) := by
      have ek : kindP L s = L[s.at_].kind := by simp [kindP, List.getElem?_eq_getElem hlt]
      rw [ek] at hk
      unfold seesF
      rw [List.getElem?_eq_getElem hlt]
      rw [Bool.beq_eq_decide_eq]
      rcases hk with q | q <;> simp [q]
    obtain ⟨tx, htx⟩ : ∃ tx, L[s.at_].text = tx := ⟨_, rfl⟩
    rw [e, htx]
    obtain ⟨n, hn⟩ : ∃ n, L.length = n := ⟨_, rfl⟩
    clear h
    go_enter Tryz.func25, Tryz.ntmps25
    go_wp2_with fail
    refine HK.out.mono ?_
    rintro e w1 ⟨rfl, f1⟩
    have h1 := HP.out.fr f1
    obtain ⟨p0, p1, p2, p3, pf, pl⟩ := h1.facts
    obtain ⟨b, off, rfl, hb, hbp, t0, t1, t2, t3, t4⟩ := h1.tok hlt
    rw [hn] at p0 hlt
    rw [htx] at t1
    have i1 : (s.at_ : Int) < (n : Int) := by omega
    have i0 : (0 : Int) ≤ (s.at_ : Int) := by omega
    clear h1 t0 t2 t3 t4 p2 p3 hn htx e
    rcases hk with q | q
    · rw [q]
      go_wp2
      go_quiet (fail)
      go_wp2
      go_ret
      exact ⟨rfl, by (repeat (first | (with_reducible exact Fr.refl _ _) | (with_reducible assumption) | (with_reducible exact Fr.of_nil (by assumption)) | (with_reducible refine Fr.drew ?_) | (with_reducible refine Fr.drewN ?_ _) | (with_reducible refine Fr.alloc ?_ _) | (with_reducible refine Fr.set ?_ _ _ (by first | (intros; omega) | (simp; done) | (simp; omega))) | (with_reducible refine Fr.via ?_ (by assumption)) | (with_reducible refine Fr.comp ?_ (by assumption))))⟩
    · rw [q]
      go_wp2
      go_quiet (fail)
      go_wp2
      go_ret
      exact ⟨rfl, by (repeat (first | (with_reducible exact Fr.refl _ _) | (with_reducible assumption) | (with_reducible exact Fr.of_nil (by assumption)) | (with_reducible refine Fr.drew ?_) | (with_reducible refine Fr.drewN ?_ _) | (with_reducible refine Fr.alloc ?_ _) | (with_reducible refine Fr.set ?_ _ _ (by first | (intros; omega) | (simp; done) | (simp; omega))) | (with_reducible refine Fr.via ?_ (by assumption)) | (with_reducible refine Fr.comp ?_ (by assumption))))⟩
  · have e : seesF L x s = false := by
      unfold seesF
      split
      · rename_i t ht
        have ek : kindP L s = t.kind := by simp [kindP, ht]
        rw [ek] at hk
        have h5 : ¬ t.kind = 5 := fun q => hk (.inl q)
        have h6 : ¬ t.kind = 6 := fun q => hk (.inr q)
        simp [h5, h6]
      · rfl
    rw [e]
    generalize kindP L s = kd at hk HK
    have h5 : ¬ kd = 5 := fun q => hk (.inl q)
    have h6 : ¬ kd = 6 := fun q => hk (.inr q)
    have d5 := decide_eq_false h5
    have d6 := decide_eq_false h6
    clear h e hk
    go_enter Tryz.func25, Tryz.ntmps25
    go_wp2_with fail
    refine HK.out.mono ?_
    rintro e w1 ⟨rfl, f1⟩
    go_wp2
    go_quiet (fail)
    go_wp2
    go_ret
    exact ⟨rfl, by (repeat (first | (with_reducible exact Fr.refl _ _) | (with_reducible assumption) | (with_reducible exact Fr.of_nil (by assumption)) | (with_reducible refine Fr.drew ?_) | (with_reducible refine Fr.drewN ?_ _) | (with_reducible refine Fr.alloc ?_ _) | (with_reducible refine Fr.set ?_ _ _ (by first | (intros; omega) | (simp; done) | (simp; omega))) | (with_reducible refine Fr.via ?_ (by assumption)) | (with_reducible refine Fr.comp ?_ (by assumption))))⟩
set_option maxRecDepth 100000 in
theorem pfault_any (e : Nat) (h : PAt w pb vT L s) :
    Calls Tryz.prog 59 #[.pointer (some ⟨pb, 0, none⟩), .int .i64 (e : Int)] w fun r w' => r = .returned (.tuple #[]) ∧ PAt w' pb vT L (faultF L e s) ∧ Fr (fun b => b = pb) w w' := by
  obtain ⟨p0, p1, p2, p3, pf, pl⟩ := h.facts
  have HP := Lib.hid h
  by_cases he : s.e = 0
  · by_cases hlt : s.at_ < L.length
    · obtain ⟨a, cap, rfl⟩ := h.toks.shape
      obtain ⟨b, off, rfl, hb, hbp, t0, t1, t2, t3, t4⟩ := h.tok hlt
      have e1 : faultF L e s = ⟨s.at_, e, L[s.at_].line⟩ := by unfold faultF; rw [if_neg (by simpa using he), List.getElem?_eq_getElem hlt]
      rw [e1]
      obtain ⟨ln, hln⟩ : ∃ ln, L[s.at_].line = ln := ⟨_, rfl⟩
      rw [hln] at t4 ⊢
      obtain ⟨n, hn⟩ : ∃ n, L.length = n := ⟨_, rfl⟩
      have i0 : (0 : Int) ≤ (s.at_ : Int) := by omega
      have i1 : (s.at_ : Int) < (n : Int) := by omega
      have i2 : (s.e : Int) = 0 := by omega
      have d2 := decide_eq_true i2
      have hle : s.at_ ≤ L.length := by omega
      rw [hn] at p0
      clear h e1 t0 t1 t2 t3 hln
      go_enter Tryz.func59, Tryz.ntmps59
      go_upto_region 2 with fail
      obtain ⟨V, hV⟩ : ∃ V, w.setCell ⟨pb, 2, none⟩ (.int .i64 (e : Int)) = V := ⟨_, rfl⟩
      rw [hV]
      have bV : Blk V pb #[.slice (some ⟨b, off, none⟩) L.length cap, .int .i64 (s.at_ : Int), .int .i64 (e : Int), .int .i64 (s.line : Int)] 76 := by
        rw [← hV]
        (unfold Blk; simp (disch := first | omega | (simp; done) | (simp; omega)) only [hp_drew, hp_drewN, hp_alloc, hp_other, hp_same, hp_new, upd_cells, Option.map_some, (HP.out.blk).eq])
        simp
      have fV : Fr (fun b => b = pb) w V := by rw [← hV]; (repeat (first | (with_reducible exact Fr.refl _ _) | (with_reducible assumption) | (with_reducible exact Fr.of_nil (by assumption)) | (with_reducible refine Fr.drew ?_) | (with_reducible refine Fr.drewN ?_ _) | (with_reducible refine Fr.alloc ?_ _) | (with_reducible refine Fr.set ?_ _ _ (by first | (intro _; exact rfl) | (intro _; exact .inl rfl) | (intro _; exact .inr rfl) | (intro q; exact absurd q (Nat.lt_irrefl _)) | (intro q; simp at q; omega))) | (with_reducible refine Fr.via ?_ (by assumption)) | (with_reducible refine Fr.comp ?_ (by assumption))))
      clear hV p0 p1 p2 p3 pf pl
      have p0 := bV.cell 0
      have p1 := bV.cell 1
      have p2 := bV.cell 2
      have p3 := bV.cell 3
      simp only [hn] at p0 p1 p2 p3
      simp at p0 p1 p2 p3
      have pf := bV.free
      have pl := bV.lt
      have t4 := fV.cell t4 hbp
      have hb := fV.lt hb
      have HV := Lib.hid (And.intro bV fV)
      clear bV fV
      go_quiet (fail)
      go_upto_region 3 with fail
      obtain ⟨V2, hV2⟩ : ∃ V2, V.drewN nq = V2 := ⟨_, rfl⟩
      rw [hV2]
      have f2 : Fr Nil V V2 := by rw [← hV2]; (repeat (first | (with_reducible exact Fr.refl _ _) | (with_reducible assumption) | (with_reducible exact Fr.of_nil (by assumption)) | (with_reducible refine Fr.drew ?_) | (with_reducible refine Fr.drewN ?_ _) | (with_reducible refine Fr.alloc ?_ _) | (with_reducible refine Fr.set ?_ _ _ (by first | (intros; omega) | (simp; done) | (simp; omega))) | (with_reducible refine Fr.via ?_ (by assumption)) | (with_reducible refine Fr.comp ?_ (by assumption))))
      have p0 := f2.cell p0 (by simp [Nil])
      have p1 := f2.cell p1 (by simp [Nil])
      have p3 := f2.cell p3 (by simp [Nil])
      have t4 := f2.cell t4 (by simp [Nil])
      have hb := f2.lt hb
      have pl := f2.lt pl
      have b2 := f2.blk HV.out.1 (fun q => q)
      have pf := b2.free
      have HV2 := Lib.hid (And.intro b2 (HV.out.2.via f2))
      clear hV2 b2 f2
      go_still_tail 14, (by kernel_rfl)
      change wpList _ _ _ _ _ V2.drew
      go_wp2
      ((try simp only [Exit.inBlock, Exit.then]); refine bodyPost_ret (results_none rfl _ _ _) rfl ?_)
      exact ⟨rfl, HP.out.to (HV2.out.2.comp (by (repeat (first | (with_reducible exact Fr.refl _ _) | (with_reducible assumption) | (with_reducible exact Fr.of_nil (by assumption)) | (with_reducible refine Fr.drew ?_) | (with_reducible refine Fr.drewN ?_ _) | (with_reducible refine Fr.alloc ?_ _) | (with_reducible refine Fr.set ?_ _ _ (by first | (intro _; exact rfl) | (intro _; exact .inl rfl) | (intro _; exact .inr rfl) | (intro q; exact absurd q (Nat.lt_irrefl _)) | (intro q; simp at q; omega))) | (with_reducible refine Fr.via ?_ (by assumption)) | (with_reducible refine Fr.comp ?_ (by assumption)))))) (by (unfold Blk; simp (disch := first | omega | (simp; done) | (simp; omega)) only [hp_drew, hp_drewN, hp_alloc, hp_other, hp_same, hp_new, upd_cells, Option.map_some, (HV2.out.1).eq]); simp [hn]) hle, HV2.out.2.comp (by (repeat (first | (with_reducible exact Fr.refl _ _) | (with_reducible assumption) | (with_reducible exact Fr.of_nil (by assumption)) | (with_reducible refine Fr.drew ?_) | (with_reducible refine Fr.drewN ?_ _) | (with_reducible refine Fr.alloc ?_ _) | (with_reducible refine Fr.set ?_ _ _ (by first | (intro _; exact rfl) | (intro _; exact .inl rfl) | (intro _; exact .inr rfl) | (intro q; exact absurd q (Nat.lt_irrefl _)) | (intro q; simp at q; omega))) | (with_reducible refine Fr.via ?_ (by assumption)) | (with_reducible refine Fr.comp ?_ (by assumption)))))⟩
    · have hge : L.length ≤ s.at_ := by omega
      have e1 : faultF L e s = ⟨s.at_, 17, (L.getLast?.map (·.line)).getD 1⟩ := by unfold faultF; rw [if_neg (by simpa using he), List.getElem?_eq_none hge]
      rw [e1]
      have i2 : (s.e : Int) = 0 := by omega
      have d2 := decide_eq_true i2
      have hle : s.at_ ≤ L.length := h.le
      obtain ⟨a, cap, rfl⟩ := h.toks.shape
      by_cases hz : 0 < L.length
      · have hl1 : L.length - 1 < L.length := by omega
        obtain ⟨b, off, rfl, hb, hbp, t0, t1, t2, t3, t4⟩ := h.tok hl1
        have e2 : (L.getLast?.map (·.line)).getD 1 = L[L.length - 1].line := by rw [List.getLast?_eq_getElem?, List.getElem?_eq_getElem hl1]; rfl
        rw [e2]
        obtain ⟨ln, hln⟩ : ∃ ln, L[L.length - 1].line = ln := ⟨_, rfl⟩
        rw [hln] at t4 ⊢
        obtain ⟨n, hn⟩ : ∃ n, L.length = n := ⟨_, rfl⟩
        rw [hn] at p0 t4
        obtain ⟨n1, hn1⟩ : ∃ n1, n = n1 + 1 := ⟨n - 1, by omega⟩
        rw [show n - 1 = n1 by omega] at t4
        have i1 : ¬ (s.at_ : Int) < (n : Int) := by omega
        have i3 : (0 : Int) < (n : Int) := by omega
        have i4 : IntKind.i64.wrap ((n : Int) - 1) = (n1 : Int) := by have := h.sz; rw [IntKind.wrap_i64]; omega
        have i5 : (0 : Int) ≤ (n1 : Int) := by omega
        have i6 : (n1 : Int) < (n : Int) := by omega
        clear h e1 e2 t0 t1 t2 t3 hln hn1
        go_enter Tryz.func59, Tryz.ntmps59
        go_upto_region 2 with fail
        obtain ⟨V, hV⟩ : ∃ V, w.setCell ⟨pb, 2, none⟩ (.int .i64 (e : Int)) = V := ⟨_, rfl⟩
        rw [hV]
        have bV : Blk V pb #[.slice (some ⟨b, off, none⟩) L.length cap, .int .i64 (s.at_ : Int), .int .i64 (e : Int), .int .i64 (s.line : Int)] 76 := by
          rw [← hV]
          (unfold Blk; simp (disch := first | omega | (simp; done) | (simp; omega)) only [hp_drew, hp_drewN, hp_alloc, hp_other, hp_same, hp_new, upd_cells, Option.map_some, (HP.out.blk).eq])
          simp
        have fV : Fr (fun b => b = pb) w V := by rw [← hV]; (repeat (first | (with_reducible exact Fr.refl _ _) | (with_reducible assumption) | (with_reducible exact Fr.of_nil (by assumption)) | (with_reducible refine Fr.drew ?_) | (with_reducible refine Fr.drewN ?_ _) | (with_reducible refine Fr.alloc ?_ _) | (with_reducible refine Fr.set ?_ _ _ (by first | (intro _; exact rfl) | (intro _; exact .inl rfl) | (intro _; exact .inr rfl) | (intro q; exact absurd q (Nat.lt_irrefl _)) | (intro q; simp at q; omega))) | (with_reducible refine Fr.via ?_ (by assumption)) | (with_reducible refine Fr.comp ?_ (by assumption))))
        clear hV p0 p1 p2 p3 pf pl
        have p0 := bV.cell 0
        have p1 := bV.cell 1
        have p2 := bV.cell 2
        have p3 := bV.cell 3
        simp only [hn] at p0 p1 p2 p3
        simp at p0 p1 p2 p3
        have pf := bV.free
        have pl := bV.lt
        have t4 := fV.cell t4 hbp
        have hb := fV.lt hb
        have HV := Lib.hid (And.intro bV fV)
        clear bV fV
        go_quiet (fail)
        go_upto_region 7 with fail
        obtain ⟨V2, hV2⟩ : ∃ V2, ((V.drewN nq).setCell ⟨pb, 2, none⟩ (.int .i64 17)).setCell ⟨pb, 3, none⟩ (.int .i64 1) = V2 := ⟨_, rfl⟩
        rw [hV2]
        have b2 : Blk V2 pb #[.slice (some ⟨b, off, none⟩) L.length cap, .int .i64 (s.at_ : Int), .int .i64 17, .int .i64 1] 76 := by
          rw [← hV2]
          (unfold Blk; simp (disch := first | omega | (simp; done) | (simp; omega)) only [hp_drew, hp_drewN, hp_alloc, hp_other, hp_same, hp_new, upd_cells, Option.map_some, (HV.out.1).eq])
          simp
        have f2 : Fr (fun b => b = pb) V V2 := by rw [← hV2]; (repeat (first | (with_reducible exact Fr.refl _ _) | (with_reducible assumption) | (with_reducible exact Fr.of_nil (by assumption)) | (with_reducible refine Fr.drew ?_) | (with_reducible refine Fr.drewN ?_ _) | (with_reducible refine Fr.alloc ?_ _) | (with_reducible refine Fr.set ?_ _ _ (by first | (intro _; exact rfl) | (intro _; exact .inl rfl) | (intro _; exact .inr rfl) | (intro q; exact absurd q (Nat.lt_irrefl _)) | (intro q; simp at q; omega))) | (with_reducible refine Fr.via ?_ (by assumption)) | (with_reducible refine Fr.comp ?_ (by assumption))))
        have t4 := f2.cell t4 hbp
        have hb := f2.lt hb
        clear hV2 p0 p1 p2 p3 pf pl
        have p0 := b2.cell 0
        have p3 := b2.cell 3
        simp only [hn] at p0 p3
        simp at p0 p3
        have pf := b2.free
        have pl := b2.lt
        have HV2 := Lib.hid (And.intro b2 (HV.out.2.comp f2))
        clear b2 f2
        go_still_tail 16, (by kernel_rfl)
        change wpList _ _ _ _ _ V2.drew
        go_wp2
        go_end0
        rw [← hn]
        exact ⟨rfl, HP.out.to (t := ⟨s.at_, 17, ln⟩) (HV2.out.2.comp (by (repeat (first | (with_reducible exact Fr.refl _ _) | (with_reducible assumption) | (with_reducible exact Fr.of_nil (by assumption)) | (with_reducible refine Fr.drew ?_) | (with_reducible refine Fr.drewN ?_ _) | (with_reducible refine Fr.alloc ?_ _) | (with_reducible refine Fr.set ?_ _ _ (by first | (intro _; exact rfl) | (intro _; exact .inl rfl) | (intro _; exact .inr rfl) | (intro q; exact absurd q (Nat.lt_irrefl _)) | (intro q; simp at q; omega))) | (with_reducible refine Fr.via ?_ (by assumption)) | (with_reducible refine Fr.comp ?_ (by assumption)))))) (by (unfold Blk; simp (disch := first | omega | (simp; done) | (simp; omega)) only [hp_drew, hp_drewN, hp_alloc, hp_other, hp_same, hp_new, upd_cells, Option.map_some, (HV2.out.1).eq]); simp [hn]) hle, HV2.out.2.comp (by (repeat (first | (with_reducible exact Fr.refl _ _) | (with_reducible assumption) | (with_reducible exact Fr.of_nil (by assumption)) | (with_reducible refine Fr.drew ?_) | (with_reducible refine Fr.drewN ?_ _) | (with_reducible refine Fr.alloc ?_ _) | (with_reducible refine Fr.set ?_ _ _ (by first | (intro _; exact rfl) | (intro _; exact .inl rfl) | (intro _; exact .inr rfl) | (intro q; exact absurd q (Nat.lt_irrefl _)) | (intro q; simp at q; omega))) | (with_reducible refine Fr.via ?_ (by assumption)) | (with_reducible refine Fr.comp ?_ (by assumption)))))⟩
      · have hL : L = [] := List.eq_nil_of_length_eq_zero (by omega)
        subst hL
        have i1 : ¬ (s.at_ : Int) < ((0 : Nat) : Int) := by omega
        have i3 : ¬ (0 : Int) < ((0 : Nat) : Int) := by omega
        simp only [List.length_nil] at p0
        clear h e1
        go_enter Tryz.func59, Tryz.ntmps59
        go_wp2
        go_quiet (fail)
        go_wp2
        go_end0
        exact ⟨rfl, HP.out.to (by (repeat (first | (with_reducible exact Fr.refl _ _) | (with_reducible assumption) | (with_reducible exact Fr.of_nil (by assumption)) | (with_reducible refine Fr.drew ?_) | (with_reducible refine Fr.drewN ?_ _) | (with_reducible refine Fr.alloc ?_ _) | (with_reducible refine Fr.set ?_ _ _ (by first | (intro _; exact rfl) | (intro _; exact .inl rfl) | (intro _; exact .inr rfl) | (intro q; exact absurd q (Nat.lt_irrefl _)) | (intro q; simp at q; omega))) | (with_reducible refine Fr.via ?_ (by assumption)) | (with_reducible refine Fr.comp ?_ (by assumption))))) (by (unfold Blk; simp (disch := first | omega | (simp; done) | (simp; omega)) only [hp_drew, hp_drewN, hp_alloc, hp_other, hp_same, hp_new, upd_cells, Option.map_some, (HP.out.blk).eq]); simp) hle, by (repeat (first | (with_reducible exact Fr.refl _ _) | (with_reducible assumption) | (with_reducible exact Fr.of_nil (by assumption)) | (with_reducible refine Fr.drew ?_) | (with_reducible refine Fr.drewN ?_ _) | (with_reducible refine Fr.alloc ?_ _) | (with_reducible refine Fr.set ?_ _ _ (by first | (intro _; exact rfl) | (intro _; exact .inl rfl) | (intro _; exact .inr rfl) | (intro q; exact absurd q (Nat.lt_irrefl _)) | (intro q; simp at q; omega))) | (with_reducible refine Fr.via ?_ (by assumption)) | (with_reducible refine Fr.comp ?_ (by assumption))))⟩
  · have e1 : faultF L e s = s := by unfold faultF; rw [if_pos he]
    rw [e1]
    have i1 : ¬ (s.e : Int) = 0 := by omega
    have d1 := decide_eq_false i1
    clear h e1
    go_enter Tryz.func59, Tryz.ntmps59
    go_wp2
    ((try simp only [Exit.inBlock, Exit.then]); refine bodyPost_ret (results_none rfl _ _ _) rfl ?_)
    exact ⟨rfl, HP.out.fr (by (repeat (first | (with_reducible exact Fr.refl _ _) | (with_reducible assumption) | (with_reducible exact Fr.of_nil (by assumption)) | (with_reducible refine Fr.drew ?_) | (with_reducible refine Fr.drewN ?_ _) | (with_reducible refine Fr.alloc ?_ _) | (with_reducible refine Fr.set ?_ _ _ (by first | (intros; omega) | (simp; done) | (simp; omega))) | (with_reducible refine Fr.via ?_ (by assumption)) | (with_reducible refine Fr.comp ?_ (by assumption))))), by (repeat (first | (with_reducible exact Fr.refl _ _) | (with_reducible assumption) | (with_reducible exact Fr.of_nil (by assumption)) | (with_reducible refine Fr.drew ?_) | (with_reducible refine Fr.drewN ?_ _) | (with_reducible refine Fr.alloc ?_ _) | (with_reducible refine Fr.set ?_ _ _ (by first | (intros; omega) | (simp; done) | (simp; omega))) | (with_reducible refine Fr.via ?_ (by assumption)) | (with_reducible refine Fr.comp ?_ (by assumption))))⟩
end
end Go.Proofs.YtlnmicddobgppaaGreatDoor

namespace Go.Proofs.YtlnmicddobgppaaGreatDoor
set_option linter.unusedSimpArgs false
set_option linter.unusedVariables false
open Go.RowKit

section
variable {w : World} {pb : Nat} {vT : Value} {L : List TokV} {s : PS}
set_option maxRecDepth 100000 in
theorem pneed_any (x : List UInt8) (h : PAt w pb vT L s) :
    Calls Tryz.prog 28 #[.pointer (some ⟨pb, 0, none⟩), .string ⟨x.toArray⟩] w fun r w' => r = .returned (.tuple #[]) ∧ PAt w' pb vT L (needF L x s) ∧ Fr (fun b => b = pb) w w' := by
  obtain ⟨p0, p1, p2, p3, pf, pl⟩ := h.facts
  have HP := Lib.hid h
  have HS := Lib.hid (psees_any x h)
  by_cases he : s.e = 0
  · have i2 : (s.e : Int) = 0 := by omega
    rw [i2] at p2
    by_cases hx : seesF L x s = true
    · have hlt := sees_lt hx
      have hsz := h.sz
      have e1 : needF L x s = { s with at_ := s.at_ + 1 } := by unfold needF; rw [if_pos ⟨he, hx⟩]
      rw [e1]
      rw [hx] at HS
      have i3 : IntKind.i64.wrap ((s.at_ : Int) + 1) = (s.at_ : Int) + 1 := by rw [IntKind.wrap_i64]; omega
      have HE := Lib.hid he
      clear h e1 he i2
      go_enter Tryz.func28, Tryz.ntmps28
      go_wp2_with fail
      refine HS.out.mono ?_
      rintro e w1 ⟨rfl, f1⟩
      have h1 := HP.out.fr f1
      obtain ⟨p0, p1, p2, p3, pf, pl⟩ := h1.facts
      have H1 := Lib.hid (And.intro h1 f1)
      clear h1
      go_wp2
      ((try simp only [Exit.inBlock, Exit.then]); refine bodyPost_ret (results_none rfl _ _ _) rfl ?_)
      have f2 : Fr (fun b => b = pb) w1 (w1.setCell ⟨pb, 1, none⟩ (.int .i64 ((s.at_ : Int) + 1))) := by (repeat (first | (with_reducible exact Fr.refl _ _) | (with_reducible assumption) | (with_reducible exact Fr.of_nil (by assumption)) | (with_reducible refine Fr.drew ?_) | (with_reducible refine Fr.drewN ?_ _) | (with_reducible refine Fr.alloc ?_ _) | (with_reducible refine Fr.set ?_ _ _ (by first | (intro _; exact rfl) | (intro _; exact .inl rfl) | (intro _; exact .inr rfl) | (intro q; exact absurd q (Nat.lt_irrefl _)) | (intro q; simp at q; omega))) | (with_reducible refine Fr.via ?_ (by assumption)) | (with_reducible refine Fr.comp ?_ (by assumption))))
      refine ⟨rfl, H1.out.1.to (t := { s with at_ := s.at_ + 1 }) f2 (by (unfold Blk; simp (disch := first | omega | (simp; done) | (simp; omega)) only [hp_drew, hp_drewN, hp_alloc, hp_other, hp_same, hp_new, upd_cells, Option.map_some, (H1.out.1.blk).eq]); simp) hlt, (Fr.of_nil H1.out.2).comp f2⟩
    · have e1 : needF L x s = faultF L 3 s := by unfold needF; rw [if_neg (fun q => hx q.2)]
      rw [e1]
      rw [show seesF L x s = false by simpa using hx] at HS
      clear h e1 he i2
      go_enter Tryz.func28, Tryz.ntmps28
      go_wp2_with fail
      refine HS.out.mono ?_
      rintro e w1 ⟨rfl, f1⟩
      go_wp2_with fail
      refine (pfault_any 3 (HP.out.fr f1)).mono ?_
      rintro e w2 ⟨rfl, h2, f2⟩
      go_wp2
      go_end0
      exact ⟨rfl, h2, (Fr.of_nil f1).comp f2⟩
  · have e1 : needF L x s = faultF L 3 s := by unfold needF; rw [if_neg (fun q => he q.1)]
    rw [e1]
    have i2 : ¬ (s.e : Int) = 0 := by omega
    have d2 := decide_eq_false i2
    have d3 : ((s.e : Int) == 0) = false := by simpa using i2
    clear h e1
    go_enter Tryz.func28, Tryz.ntmps28
    go_wp2_with fail
    refine (pfault_any 3 HP.out).mono ?_
    rintro e w2 ⟨rfl, h2, f2⟩
    go_wp2
    go_end0
    exact ⟨rfl, h2, f2⟩
set_option maxRecDepth 100000 in
theorem ptoken_any (k : Int) (hk : k ≠ 0) (h : PAt w pb vT L s) :
    Calls Tryz.prog 58 #[.pointer (some ⟨pb, 0, none⟩), .int .i64 k] w fun r w' => r = .returned (tokV (tokenF L k s).1) ∧ PAt w' pb vT L (tokenF L k s).2 ∧ Fr (fun b => b = pb) w w' := by
  obtain ⟨p0, p1, p2, p3, pf, pl⟩ := h.facts
  have HP := Lib.hid h
  have HK := Lib.hid (fun w' (f : Fr Nil w w') => pkind_any (h.fr f))
  by_cases he : s.e = 0
  · have i2 : (s.e : Int) = 0 := by omega
    rw [i2] at p2
    by_cases hx : kindP L s = k
    · have hlt := kind_lt hx hk
      have hsz := h.sz
      have e1 : tokenF L k s = (L[s.at_], { s with at_ := s.at_ + 1 }) := by unfold tokenF; rw [if_pos ⟨he, hx⟩, List.getElem?_eq_getElem hlt]; rfl
      rw [e1]
      obtain ⟨tk, htk⟩ : ∃ tk, L[s.at_] = tk := ⟨_, rfl⟩
      rw [htk]
      rw [hx] at HK
      have i3 : IntKind.i64.wrap ((s.at_ : Int) + 1) = (s.at_ : Int) + 1 := by rw [IntKind.wrap_i64]; omega
      have i4 : IntKind.i64.wrap ((s.at_ : Int) + 1 - 1) = (s.at_ : Int) := by rw [IntKind.wrap_i64]; omega
      have i5 : IntKind.i64.wrap (s.at_ : Int) = (s.at_ : Int) := by rw [IntKind.wrap_i64]; omega
      obtain ⟨n, hn⟩ : ∃ n, L.length = n := ⟨_, rfl⟩
      obtain ⟨a, cap, rfl⟩ := h.toks.shape
      have i6 : (s.at_ : Int) < (n : Int) := by omega
      have i7 : (0 : Int) ≤ (s.at_ : Int) := by omega
      have HN := Lib.hid (And.intro htk hn)
      clear h e1 he i2 htk hn
      go_enter Tryz.func58, Tryz.ntmps58
      go_wp2_with fail
      refine (HK.out _ (by (repeat (first | (with_reducible exact Fr.refl _ _) | (with_reducible assumption) | (with_reducible exact Fr.of_nil (by assumption)) | (with_reducible refine Fr.drew ?_) | (with_reducible refine Fr.drewN ?_ _) | (with_reducible refine Fr.alloc ?_ _) | (with_reducible refine Fr.set ?_ _ _ (by first | (intros; omega) | (simp; done) | (simp; omega))) | (with_reducible refine Fr.via ?_ (by assumption)) | (with_reducible refine Fr.comp ?_ (by assumption)))))).mono ?_
      rintro e w1 ⟨rfl, f1⟩
      have fA : Fr Nil w w1 := Fr.trans (S := Nil) (by (repeat (first | (with_reducible exact Fr.refl _ _) | (with_reducible assumption) | (with_reducible exact Fr.of_nil (by assumption)) | (with_reducible refine Fr.drew ?_) | (with_reducible refine Fr.drewN ?_ _) | (with_reducible refine Fr.alloc ?_ _) | (with_reducible refine Fr.set ?_ _ _ (by first | (intros; omega) | (simp; done) | (simp; omega))) | (with_reducible refine Fr.via ?_ (by assumption)) | (with_reducible refine Fr.comp ?_ (by assumption))))) f1 (fun _ _ q => q)
      have bT := f1.new
      have h1 := HP.out.fr fA
      obtain ⟨p0, p1, p2, p3, pf, pl'⟩ := h1.facts
      rw [HN.out.2] at p0
      go_upto_region 3 with fail
      obtain ⟨V, hV⟩ : ∃ V, w1.setCell ⟨pb, 1, none⟩ (.int .i64 ((s.at_ : Int) + 1)) = V := ⟨_, rfl⟩
      rw [hV]
      obtain ⟨T, hT⟩ : ∃ T, w.heap.size = T := ⟨_, rfl⟩
      rw [hT] at bT pl ⊢
      have hne : pb ≠ T := by omega
      have bV : Blk V pb #[.slice a L.length cap, .int .i64 ((s.at_ : Int) + 1), .int .i64 (s.e : Int), .int .i64 (s.line : Int)] 76 := by
        rw [← hV]
        (unfold Blk; simp (disch := first | omega | (simp; done) | (simp; omega)) only [hp_drew, hp_drewN, hp_alloc, hp_other, hp_same, hp_new, upd_cells, Option.map_some, (h1.blk).eq])
        simp
      have fV : Fr (fun b => b = pb) w1 V := by rw [← hV]; (repeat (first | (with_reducible exact Fr.refl _ _) | (with_reducible assumption) | (with_reducible exact Fr.of_nil (by assumption)) | (with_reducible refine Fr.drew ?_) | (with_reducible refine Fr.drewN ?_ _) | (with_reducible refine Fr.alloc ?_ _) | (with_reducible refine Fr.set ?_ _ _ (by first | (intro _; exact rfl) | (intro _; exact .inl rfl) | (intro _; exact .inr rfl) | (intro q; exact absurd q (Nat.lt_irrefl _)) | (intro q; simp at q; omega))) | (with_reducible refine Fr.via ?_ (by assumption)) | (with_reducible refine Fr.comp ?_ (by assumption))))
      have bT := fV.blk bT (fun q => hne q.symm)
      obtain ⟨b, off, rfl, hb, hbp, t0, t1, t2, t3, t4⟩ := h1.tok hlt
      rw [HN.out.1] at t0 t1 t2 t3 t4
      have t0 := fV.cell t0 hbp
      have t1 := fV.cell t1 hbp
      have t2 := fV.cell t2 hbp
      have t3 := fV.cell t3 hbp
      have t4 := fV.cell t4 hbp
      have hb := fV.lt hb
      clear hV p0 p1 p2 p3 pf pl'
      have p0 := bV.cell 0
      have p1 := bV.cell 1
      simp only [HN.out.2] at p0
      simp at p0 p1
      have pf := bV.free
      have pl' := bV.lt
      have hTl := bT.lt
      have hTf := bT.free
      have hT0 := bT.cell 0
      have hT1 := bT.cell 1
      have hT2 := bT.cell 2
      have hT3 := bT.cell 3
      have hT4 := bT.cell 4
      simp at hT0 hT1 hT2 hT3 hT4
      have fWV : Fr (fun b => b = pb) w V := (Fr.of_nil fA).comp fV
      have HV := Lib.hid (And.intro bV bT)
      clear bV bT fV h1 fA f1
      go_still_tail 11, (by kernel_rfl)
      change wpList _ _ _ _ _ V.drew
      go_wp2
      subst hT
      (try simp only [Exit.inBlock, Exit.then])
      refine bodyPost_ret (v := tokV tk) (by simp [results, Tryz.results58, go_sem, tokV, *]) rfl ⟨rfl, ?_, ?_⟩
      · refine HP.out.to (t := { s with at_ := s.at_ + 1 }) (by (repeat (first | (with_reducible exact Fr.refl _ _) | (with_reducible assumption) | (with_reducible exact Fr.of_nil (by assumption)) | (with_reducible refine Fr.drew ?_) | (with_reducible refine Fr.drewN ?_ _) | (with_reducible refine Fr.alloc ?_ _) | (with_reducible refine Fr.set ?_ _ _ (by first | (intro _; exact rfl) | (intro _; exact .inl rfl) | (intro _; exact .inr rfl) | (intro q; exact absurd q (Nat.lt_irrefl _)) | (intro q; simp at q; omega))) | (with_reducible refine Fr.via ?_ (by assumption)) | (with_reducible refine Fr.comp ?_ (by assumption))))) ?_ hlt
        (unfold Blk; simp (disch := first | omega | (simp; done) | (simp; omega)) only [hp_drew, hp_drewN, hp_alloc, hp_other, hp_same, hp_new, upd_cells, Option.map_some, (HV.out.1).eq])
        simp
      · (repeat (first | (with_reducible exact Fr.refl _ _) | (with_reducible assumption) | (with_reducible exact Fr.of_nil (by assumption)) | (with_reducible refine Fr.drew ?_) | (with_reducible refine Fr.drewN ?_ _) | (with_reducible refine Fr.alloc ?_ _) | (with_reducible refine Fr.set ?_ _ _ (by first | (intro _; exact rfl) | (intro _; exact .inl rfl) | (intro _; exact .inr rfl) | (intro q; exact absurd q (Nat.lt_irrefl _)) | (intro q; simp at q; omega))) | (with_reducible refine Fr.via ?_ (by assumption)) | (with_reducible refine Fr.comp ?_ (by assumption))))
    · have e1 : tokenF L k s = (none_ 0, faultF L 3 s) := by unfold tokenF; rw [if_neg (fun q => hx q.2)]
      rw [e1]
      generalize kindP L s = kd at hx HK
      have d1 := decide_eq_false hx
      clear h e1 he i2
      go_enter Tryz.func58, Tryz.ntmps58
      go_wp2_with fail
      refine (HK.out _ (by (repeat (first | (with_reducible exact Fr.refl _ _) | (with_reducible assumption) | (with_reducible exact Fr.of_nil (by assumption)) | (with_reducible refine Fr.drew ?_) | (with_reducible refine Fr.drewN ?_ _) | (with_reducible refine Fr.alloc ?_ _) | (with_reducible refine Fr.set ?_ _ _ (by first | (intros; omega) | (simp; done) | (simp; omega))) | (with_reducible refine Fr.via ?_ (by assumption)) | (with_reducible refine Fr.comp ?_ (by assumption)))))).mono ?_
      rintro e w1 ⟨rfl, f1⟩
      have fA : Fr Nil w w1 := Fr.trans (S := Nil) (by (repeat (first | (with_reducible exact Fr.refl _ _) | (with_reducible assumption) | (with_reducible exact Fr.of_nil (by assumption)) | (with_reducible refine Fr.drew ?_) | (with_reducible refine Fr.drewN ?_ _) | (with_reducible refine Fr.alloc ?_ _) | (with_reducible refine Fr.set ?_ _ _ (by first | (intros; omega) | (simp; done) | (simp; omega))) | (with_reducible refine Fr.via ?_ (by assumption)) | (with_reducible refine Fr.comp ?_ (by assumption))))) f1 (fun _ _ q => q)
      have bT := f1.new
      go_wp2_with fail
      refine (pfault_any 3 (HP.out.fr fA)).mono ?_
      rintro e w2 ⟨rfl, h2, f2⟩
      have hne : pb ≠ w.heap.size := by omega
      have bT2 := f2.blk bT (fun q => hne q.symm)
      obtain ⟨T, hT⟩ : ∃ T, w.heap.size = T := ⟨_, rfl⟩
      rw [hT] at bT2 pl hne ⊢
      have hTl := bT2.lt
      have hTf := bT2.free
      have hT0 := bT2.cell 0
      have hT1 := bT2.cell 1
      have hT2 := bT2.cell 2
      have hT3 := bT2.cell 3
      have hT4 := bT2.cell 4
      simp at hT0 hT1 hT2 hT3 hT4
      have fW2 : Fr (fun b => b = pb) w w2 := (Fr.of_nil fA).comp f2
      have H2 := Lib.hid (And.intro h2 bT2)
      clear h2 bT2 bT f1 fA f2
      go_wp2
      subst hT
      (try simp only [Exit.inBlock, Exit.then])
      refine bodyPost_ret (v := tokV (none_ 0)) (by simp [results, Tryz.results58, go_sem, tokV, none_, *]) rfl ⟨rfl, ?_, ?_⟩
      · refine HP.out.to (t := faultF L 3 s) (by (repeat (first | (with_reducible exact Fr.refl _ _) | (with_reducible assumption) | (with_reducible exact Fr.of_nil (by assumption)) | (with_reducible refine Fr.drew ?_) | (with_reducible refine Fr.drewN ?_ _) | (with_reducible refine Fr.alloc ?_ _) | (with_reducible refine Fr.set ?_ _ _ (by first | (intro _; exact rfl) | (intro _; exact .inl rfl) | (intro _; exact .inr rfl) | (intro q; exact absurd q (Nat.lt_irrefl _)) | (intro q; simp at q; omega))) | (with_reducible refine Fr.via ?_ (by assumption)) | (with_reducible refine Fr.comp ?_ (by assumption))))) ?_ H2.out.1.le
        (unfold Blk; simp (disch := first | omega | (simp; done) | (simp; omega)) only [hp_drew, hp_drewN, hp_alloc, hp_other, hp_same, hp_new, upd_cells, Option.map_some, (H2.out.1.blk).eq])
      · (repeat (first | (with_reducible exact Fr.refl _ _) | (with_reducible assumption) | (with_reducible exact Fr.of_nil (by assumption)) | (with_reducible refine Fr.drew ?_) | (with_reducible refine Fr.drewN ?_ _) | (with_reducible refine Fr.alloc ?_ _) | (with_reducible refine Fr.set ?_ _ _ (by first | (intro _; exact rfl) | (intro _; exact .inl rfl) | (intro _; exact .inr rfl) | (intro q; exact absurd q (Nat.lt_irrefl _)) | (intro q; simp at q; omega))) | (with_reducible refine Fr.via ?_ (by assumption)) | (with_reducible refine Fr.comp ?_ (by assumption))))
  · have e1 : tokenF L k s = (none_ 0, faultF L 3 s) := by unfold tokenF; rw [if_neg (fun q => he q.1)]
    rw [e1]
    have i2 : ¬ (s.e : Int) = 0 := by omega
    have d2 := decide_eq_false i2
    have d3 : ((s.e : Int) == 0) = false := by simpa using i2
    clear h e1
    go_enter Tryz.func58, Tryz.ntmps58
    go_wp2_with fail
    have bT : Blk (w.alloc (.cells #[.int .i64 0, .string ⟨#[]⟩, .bool false, .int .u64 0, .int .i64 0] 41)) w.heap.size #[.int .i64 0, .string ⟨#[]⟩, .bool false, .int .u64 0, .int .i64 0] 41 := Blk.new _ _ _
    have fA : Fr Nil w (w.alloc (.cells #[.int .i64 0, .string ⟨#[]⟩, .bool false, .int .u64 0, .int .i64 0] 41)) := by (repeat (first | (with_reducible exact Fr.refl _ _) | (with_reducible assumption) | (with_reducible exact Fr.of_nil (by assumption)) | (with_reducible refine Fr.drew ?_) | (with_reducible refine Fr.drewN ?_ _) | (with_reducible refine Fr.alloc ?_ _) | (with_reducible refine Fr.set ?_ _ _ (by first | (intros; omega) | (simp; done) | (simp; omega))) | (with_reducible refine Fr.via ?_ (by assumption)) | (with_reducible refine Fr.comp ?_ (by assumption))))
    refine (pfault_any 3 (HP.out.fr fA)).mono ?_
    rintro e w2 ⟨rfl, h2, f2⟩
    have hne : pb ≠ w.heap.size := by omega
    have bT2 := f2.blk bT (fun q => hne q.symm)
    obtain ⟨T, hT⟩ : ∃ T, w.heap.size = T := ⟨_, rfl⟩
    rw [hT] at bT2 pl hne ⊢
    have hTl := bT2.lt
    have hTf := bT2.free
    have hT0 := bT2.cell 0
    have hT1 := bT2.cell 1
    have hT2 := bT2.cell 2
    have hT3 := bT2.cell 3
    have hT4 := bT2.cell 4
    simp at hT0 hT1 hT2 hT3 hT4
    have fW2 : Fr (fun b => b = pb) w w2 := (Fr.of_nil fA).comp f2
    have H2 := Lib.hid (And.intro h2 bT2)
    clear h2 bT2 bT fA f2
    go_wp2
    subst hT
    (try simp only [Exit.inBlock, Exit.then])
    refine bodyPost_ret (v := tokV (none_ 0)) (by simp [results, Tryz.results58, go_sem, tokV, none_, *]) rfl ⟨rfl, ?_, ?_⟩
    · refine HP.out.to (t := faultF L 3 s) (by (repeat (first | (with_reducible exact Fr.refl _ _) | (with_reducible assumption) | (with_reducible exact Fr.of_nil (by assumption)) | (with_reducible refine Fr.drew ?_) | (with_reducible refine Fr.drewN ?_ _) | (with_reducible refine Fr.alloc ?_ _) | (with_reducible refine Fr.set ?_ _ _ (by first | (intro _; exact rfl) | (intro _; exact .inl rfl) | (intro _; exact .inr rfl) | (intro q; exact absurd q (Nat.lt_irrefl _)) | (intro q; simp at q; omega))) | (with_reducible refine Fr.via ?_ (by assumption)) | (with_reducible refine Fr.comp ?_ (by assumption))))) ?_ H2.out.1.le
      (unfold Blk; simp (disch := first | omega | (simp; done) | (simp; omega)) only [hp_drew, hp_drewN, hp_alloc, hp_other, hp_same, hp_new, upd_cells, Option.map_some, (H2.out.1.blk).eq])
    · (repeat (first | (with_reducible exact Fr.refl _ _) | (with_reducible assumption) | (with_reducible exact Fr.of_nil (by assumption)) | (with_reducible refine Fr.drew ?_) | (with_reducible refine Fr.drewN ?_ _) | (with_reducible refine Fr.alloc ?_ _) | (with_reducible refine Fr.set ?_ _ _ (by first | (intro _; exact rfl) | (intro _; exact .inl rfl) | (intro _; exact .inr rfl) | (intro q; exact absurd q (Nat.lt_irrefl _)) | (intro q; simp at q; omega))) | (with_reducible refine Fr.via ?_ (by assumption)) | (with_reducible refine Fr.comp ?_ (by assumption))))
end
end Go.Proofs.YtlnmicddobgppaaGreatDoor

namespace Go.Proofs.YtlnmicddobgppaaGreatDoor
set_option linter.unusedSimpArgs false
set_option linter.unusedVariables false
open Go.RowKit

theorem owns_frS {S : Nat → Prop} {w w' : World} {base size n : Nat} {t : TypeId} {u : Value} {xs : List Value} (h : w.ownsRow base t size u n xs) (f : Fr S w w') (hn : ∀ k, u.ownBlock = some k → ¬ S k) : w'.ownsRow base t size u n xs := by
  obtain ⟨h1, h2⟩ := h
  refine ⟨h1, ?_⟩
  rcases h2 with h2 | ⟨g, cap, cur, hv, hg, hh, r⟩
  · exact Or.inl h2
  · have hb : Blk w g cur t := hh
    exact Or.inr ⟨g, cap, cur, hv, hg, f.blk hb (hn g (by rw [hv]; rfl)), r⟩
theorem PAt.keep {S : Nat → Prop} {w w2 w3 : World} {pb : Nat} {vT : Value} {L : List TokV} {s st : PS} (h0 : PAt w pb vT L s) (F : Fr (fun b => b = pb) w w3) (h2 : PAt w2 pb vT L st) (g : Fr S w2 w3) (hS : ¬ S pb) : PAt w3 pb vT L st :=
  ⟨g.blk h2.blk hS, h0.toks.fr F (fun _ q => q), h2.le, h2.sz⟩
/-- An element that was just built is appended to a row of the call's own. -/
theorem wpList_push {P : Program} {w : World} {ops : Array Oper} {rest : List Oper} {o : Oper} {a : Act} {Q : Exit → Act → World → Prop}
    (hg : o.guard = none) (s x : Operand) (t : TypeId) (hop : o.op = Op.call { callee := Callee.builtin Builtin.append, args := #[s, x], argTypes := #[t, t] })
    (base : Nat) (e : TypeId) (i : TypeInfo) (z : Value) (size bytes : Nat) (h1 : P.underlying t = some (.slice e)) (h2 : P.info? e = some i) (h3 : i.zero = some z) (h4 : i.size = size) (h5 : i.bytes = bytes) (h6 : z.cells.size = size) (h7 : 0 < size)
    (v : Value) (n : Nat) (xs : List Value) (hs : a.eval s = v) (hown : w.ownsRow base e size v n xs) (news : List Value) (hx : a.eval x = .slice (some ⟨w.heap.size, 0, none⟩) 1 1) (hl : news.length = size) (h1c : ∀ u ∈ news, u.oneCell' = true)
    (b1 : n + 1 ≤ maxLen) (b2 : (n + 1) * bytes ≤ 140737488355328) (hbase : base ≤ w.heap.size)
    (hK : ∀ v' w', w'.ownsRow base e size v' (n + 1) (xs ++ news) → Fr (fun k => v.ownBlock = some k) w w' → (∀ k, v'.ownBlock = some k → v.ownBlock = some k ∨ w.heap.size ≤ k) → wpList P ops Q rest (a.put o.dst v') w') : wpList P ops Q (o :: rest) a (w.alloc (.cells news.toArray e)) := by
  have hlt := hown.lt
  have fA : Fr Nil w (w.alloc (.cells news.toArray e)) := (Fr.refl _ _).alloc _
  have hb : Blk (w.alloc (.cells news.toArray e)) w.heap.size news.toArray e := Blk.new _ _ _
  refine wpList_append_src hg s x t hop base e i z size bytes h1 h2 h3 h4 h5 h6 h7 v n xs hs (owns_frS hown fA (fun _ _ q => q)) (some ⟨w.heap.size, 0, none⟩) 1 1 news hx (.inr ⟨_, rfl, by rw [hl]; omega, fun j u hj => ?_⟩) h1c b1 b2 (Nat.le_trans hbase fA.size) ?_
  · rw [add_head, hb.cell]
    simpa using hj
  · intro v' w' r1 r2 r3
    refine hK v' w' r1 (Fr.grown (fA.of_nil) r2 (fun k q _ => q)) (fun k q => ?_)
    rcases r3 with r3 | r3
    · exact .inl (r3 ▸ q)
    · rw [r3] at q
      cases q
      exact .inr fA.size
theorem infoS : (Tryz.prog.info? 9).map (fun i => (i.zero, i.size, i.bytes)) = some (some (.string ⟨#[]⟩), 1, 16) := by kernel_rfl
theorem infoE : (Tryz.prog.info? 49).map (fun i => (i.zero, i.size, i.bytes)) = some (some (.agg #[.int .i64 0, .string ⟨#[]⟩, .bool false, .int .u64 0, .slice none 0 0, .slice none 0 0, .slice none 0 0, .slice none 0 0]), 8, 136) := by kernel_rfl
theorem infoB : (Tryz.prog.info? 51).map (fun i => (i.zero, i.size, i.bytes)) = some (some (.agg #[.string ⟨#[]⟩, .slice none 0 0, .int .i64 0, .string ⟨#[]⟩, .bool false, .int .u64 0, .slice none 0 0, .slice none 0 0, .slice none 0 0, .slice none 0 0]), 10, 176) := by kernel_rfl
theorem infoA : (Tryz.prog.info? 120).map (fun i => (i.zero, i.size, i.bytes)) = some (some (.agg #[.int .i64 0, .string ⟨#[]⟩, .bool false, .int .u64 0, .slice none 0 0, .int .i64 0, .string ⟨#[]⟩, .bool false, .int .u64 0, .slice none 0 0, .slice none 0 0, .slice none 0 0, .slice none 0 0]), 13, 200) := by kernel_rfl
theorem infoD : (Tryz.prog.info? 68).map (fun i => (i.zero, i.size, i.bytes)) = some (some (.agg #[.string ⟨#[]⟩, .int .i64 0]), 2, 24) := by kernel_rfl
/-- Names as their cells lie. -/
def strC (l : List (List UInt8)) : List Value := l.map (fun x => .string ⟨x.toArray⟩)
theorem strC_snoc (l : List (List UInt8)) (x : List UInt8) : strC (l ++ [x]) = strC l ++ [.string ⟨x.toArray⟩] := by simp [strC]
theorem RowS.of_own {X : Nat → Prop} {w : World} {base : Nat} {v : Value} {l : List (List UInt8)} (h : w.ownsRow base 9 1 v l.length (strC l)) (hX : ∀ b, X b → b < base) : RowS X w v l :=
  RowC.of_own h hX (fun i hi => rfl) (fun i hi j u hj => by
    cases j with
    | zero =>
      simp at hj
      subst hj
      have e : l[i]?.getD [] = l[i] := by simp [hi]
      simp [strC, hi]
    | succ j => simp at hj)
theorem run_tok1 (a b c d e : Value) (w : World) : (Instr.field 41 (.agg #[a, b, c, d, e]) 1).run Tryz.prog w = .ok b w := by kernel_rfl
section
variable {w : World} {pb : Nat} {vT : Value} {L : List TokV} {s : PS}
set_option maxRecDepth 100000 in
theorem pnames_any (least : Bool) (h : PAt w pb vT L s) :
    Calls Tryz.prog 60 #[.pointer (some ⟨pb, 0, none⟩), .int .i64 (if least then 1 else 0)] w fun r w' => ∃ v, r = .returned v ∧ RowS (fun b => b < w.heap.size) w' v (namesF L (fuelP L) least [] s).1 ∧ PAt w' pb vT L (namesF L (fuelP L) least [] s).2 ∧ Fr (fun b => b = pb) w w' := by
  obtain ⟨i0, hi, hz0, hz1, hz2⟩ := info_parts infoS
  obtain ⟨R, hR⟩ : ∃ R, namesF L (fuelP L) least [] s = R := ⟨_, rfl⟩
  rw [hR]
  obtain ⟨F, hF⟩ : ∃ F, fuelP L = F := ⟨_, rfl⟩
  have hm := measP_le L s
  rw [hF] at hR hm
  have hF2 : F ≤ 1000002 := by have := h.sz; unfold fuelP at hF; omega
  obtain ⟨lv, hlv⟩ : ∃ lv : Int, (if least then 1 else 0) = lv := ⟨_, rfl⟩
  rw [hlv]
  have hpl := h.blk.lt
  have HP := Lib.hid (And.intro h (And.intro hR (And.intro hlv hm)))
  have htf := run_tok1
  clear h hR hlv hm hF
  go_enter Tryz.func60, Tryz.ntmps60
  go_wp2_with fail
  go_loopg [1, 5] F (fun g lo vo wr => ∃ (ls : Bool) (li : Int) (acc : List (List UInt8)) (st : PS) (v : Value), lo = .int .i64 li ∧ v = vo ∧ acc.length + g = F ∧ Hid (namesF L g ls acc st = R ∧ measP L st + 1 ≤ g ∧ wr.ownsRow w.heap.size 9 1 v acc.length (strC acc) ∧ PAt wr pb vT L st ∧ li = (if ls = true then 1 else 0)) ∧ Fr (fun b => b = pb) w wr)
  case atStart => exact ⟨least, lv, [], s, _, rfl, rfl, by simp, Lib.hid ⟨HP.out.2.1, HP.out.2.2.2, World.ownsRow_nil _ _ _ _, HP.out.1, HP.out.2.2.1.symm⟩, Fr.refl _ _⟩
  case round =>
    obtain ⟨ls, li, acc, st, v, rfl, rfl, hg, HS, hw⟩ := hrel
    obtain ⟨p0, p1, p2, p3, pf, pl⟩ := HS.out.2.2.2.1.facts
    obtain ⟨cc, hcc⟩ : ∃ cc, decide (st.e = 0 ∧ (ls = true ∨ kindP L st = 1)) = cc := ⟨_, rfl⟩
    have HCC := Lib.hid hcc
    clear hcc
    go_upto_region 2 with fail
    go_cut [19] (fun sv wx => sv = .bool cc ∧ Fr Nil wr wx)
    case first =>
      by_cases he : st.e = 0
      · have i2 : (st.e : Int) = 0 := by omega
        rw [i2] at p2
        cases ls with
        | true =>
          obtain rfl : li = 1 := HS.out.2.2.2.2
          go_wp2
          go_meet
          exact ⟨by rw [← HCC.out]; simp [he], by (repeat (first | (with_reducible exact Fr.refl _ _) | (with_reducible assumption) | (with_reducible exact Fr.of_nil (by assumption)) | (with_reducible refine Fr.drew ?_) | (with_reducible refine Fr.drewN ?_ _) | (with_reducible refine Fr.alloc ?_ _) | (with_reducible refine Fr.set ?_ _ _ (by first | (intros; omega) | (simp; done) | (simp; omega))) | (with_reducible refine Fr.via ?_ (by assumption)) | (with_reducible refine Fr.comp ?_ (by assumption))))⟩
        | false =>
          obtain rfl : li = 0 := HS.out.2.2.2.2
          have HK := Lib.hid (pkind_any HS.out.2.2.2.1)
          have hcc := HCC.out
          by_cases hk : kindP L st = 1
          · rw [decide_eq_true ⟨he, .inr hk⟩] at hcc
            rw [hk] at HK
            subst hcc
            clear hk i2
            go_wp2_with fail
            refine HK.out.mono ?_
            rintro e w1 ⟨rfl, f1⟩
            go_wp2
            go_meet
            exact ⟨rfl, by (repeat (first | (with_reducible exact Fr.refl _ _) | (with_reducible assumption) | (with_reducible exact Fr.of_nil (by assumption)) | (with_reducible refine Fr.drew ?_) | (with_reducible refine Fr.drewN ?_ _) | (with_reducible refine Fr.alloc ?_ _) | (with_reducible refine Fr.set ?_ _ _ (by first | (intros; omega) | (simp; done) | (simp; omega))) | (with_reducible refine Fr.via ?_ (by assumption)) | (with_reducible refine Fr.comp ?_ (by assumption))))⟩
          · rw [decide_eq_false (fun q => by rcases q.2 with q | q; cases q; exact hk q)] at hcc
            subst hcc
            generalize kindP L st = kd at hk HK
            have d1 := decide_eq_false hk
            have d2 : (kd == 1) = false := by simpa using hk
            clear i2
            go_wp2_with fail
            refine HK.out.mono ?_
            rintro e w1 ⟨rfl, f1⟩
            go_wp2
            go_meet
            exact ⟨by simp [d2], by (repeat (first | (with_reducible exact Fr.refl _ _) | (with_reducible assumption) | (with_reducible exact Fr.of_nil (by assumption)) | (with_reducible refine Fr.drew ?_) | (with_reducible refine Fr.drewN ?_ _) | (with_reducible refine Fr.alloc ?_ _) | (with_reducible refine Fr.set ?_ _ _ (by first | (intros; omega) | (simp; done) | (simp; omega))) | (with_reducible refine Fr.via ?_ (by assumption)) | (with_reducible refine Fr.comp ?_ (by assumption))))⟩
      · have i2 : ¬ (st.e : Int) = 0 := by omega
        have d3 : ((st.e : Int) == 0) = false := by simpa using i2
        have hcc := HCC.out
        rw [decide_eq_false (fun q => he q.1)] at hcc
        subst hcc
        go_wp2
        go_meet
        exact ⟨by simp [d3], by (repeat (first | (with_reducible exact Fr.refl _ _) | (with_reducible assumption) | (with_reducible exact Fr.of_nil (by assumption)) | (with_reducible refine Fr.drew ?_) | (with_reducible refine Fr.drewN ?_ _) | (with_reducible refine Fr.alloc ?_ _) | (with_reducible refine Fr.set ?_ _ _ (by first | (intros; omega) | (simp; done) | (simp; omega))) | (with_reducible refine Fr.via ?_ (by assumption)) | (with_reducible refine Fr.comp ?_ (by assumption))))⟩
    case rest =>
      obtain ⟨rfl, f1⟩ := hcut
      obtain ⟨wx, hwx⟩ : ∃ wx, wc = wx := ⟨_, rfl⟩
      rw [hwx] at f1 ⊢
      clear hwx p0 p1 p2 p3 pf pl
      cases cc with
      | true =>
        obtain ⟨he, hk⟩ := of_decide_eq_true HCC.out
        have hT := token_meas (L := L) (k := 1) (by decide) he
        have HT := Lib.hid (ptoken_any 1 (by decide) (HS.out.2.2.2.1.fr f1))
        obtain ⟨f, hf⟩ : ∃ f, gk = f + 1 := ⟨gk - 1, by have := HS.out.2.1; omega⟩
        have hstep : namesF L f false (acc ++ [(tokenF L 1 st).1.text]) (tokenF L 1 st).2 = R := by
          have h := HS.out.1
          rw [hf] at h
          unfold namesF at h
          rw [if_pos ⟨he, hk⟩] at h
          exact h
        obtain ⟨tk, st', hts⟩ : ∃ tk st', tokenF L 1 st = (tk, st') := ⟨_, _, rfl⟩
        rw [hts] at HT hstep hT
        have hmf : measP L st' + 1 ≤ f := by have := HS.out.2.1; simp only at hT; omega
        have HR := Lib.hid (And.intro hstep hmf)
        clear hstep hT hts hk he hmf
        go_wp2_with fail
        refine HT.out.mono ?_
        rintro e w2 ⟨rfl, h2, f2⟩
        unfold tokV
        have fw2 : Fr (fun b => b = pb) w w2 := (hw.via f1).comp f2
        have hown2 : w2.ownsRow w.heap.size 9 1 v acc.length (strC acc) := owns_frS (owns_fr HS.out.2.2.1 f1) f2 (fun k q e => by
          have h := (HS.out.2.2.1.lt k q).1
          have e' : k = pb := e
          omega)
        have hs2 := fw2.size
        have hown3 := hown2.lt
        have H2 := Lib.hid (And.intro h2 (And.intro hown2 (And.intro fw2 hown3)))
        clear h2 hown2 fw2 f2 f1 hown3 HS HCC
        go_wp2_with (first
          | (at_builtin; refine wpList_push rfl (.tmp 20) (.tmp 24) 45 rfl w.heap.size 9 i0 (.string ⟨#[]⟩) 1 16 Tryz.underlying45 hi hz0 hz1 hz2 rfl (by decide) v acc.length (strC acc) rfl H2.out.2.1 [.string ⟨tk.text.toArray⟩] rfl rfl (by simp [Value.oneCell']) (by unfold maxLen; omega) (by omega) hs2 ?_; intro v' w3 hown3 f3 _; have HO := Lib.hid (And.intro hown3 f3); clear hown3 f3)
          | fail)
        have fw3 : Fr (fun b => b = pb) w w3 := H2.out.2.2.1.trans HO.out.2 (fun k hk q => by have := (H2.out.2.2.2 k q).1; omega)
        have hP3 := HP.out.1.keep fw3 H2.out.1 HO.out.2 (fun q => by have := (H2.out.2.2.2 pb q).1; omega)
        go_roundg f
        case rel => exact ⟨false, 0, acc ++ [tk.text], st', v', rfl, rfl, by simp; omega, Lib.hid ⟨HR.out.1, HR.out.2, by rw [strC_snoc, List.length_append]; exact HO.out.1, hP3, rfl⟩, fw3⟩
        case measure => omega
      | false =>
        have hno := of_decide_eq_false HCC.out
        obtain ⟨f, hf⟩ : ∃ f, gk = f + 1 := ⟨gk - 1, by have := HS.out.2.1; omega⟩
        have hR : (acc, st) = R := by
          have h := HS.out.1
          rw [hf] at h
          unfold namesF at h
          rw [if_neg hno] at h
          exact h
        subst hR
        have hrow : RowS (fun b => b < w.heap.size) wr v acc := RowS.of_own HS.out.2.2.1 (fun b q => q)
        have HF := Lib.hid (And.intro (RowS.fr hrow f1 (fun _ q => q.elim)) (And.intro (HS.out.2.2.2.1.fr f1) (hw.via f1)))
        clear hrow hno
        go_wp2
        go_ret
        exact ⟨v, rfl, HF.out.1, HF.out.2.1, HF.out.2.2⟩
end
end Go.Proofs.YtlnmicddobgppaaGreatDoor

namespace Go.Proofs.YtlnmicddobgppaaGreatDoor
set_option linter.unusedSimpArgs false
set_option linter.unusedVariables false
open Go.RowKit

/-- The eight cells of an expression. -/
def eC (k : Nat) (n : ByteArray) (f : Bool) (b : Nat) (a0 : Option Addr) (n0 c0 : Nat) (a1 : Option Addr) (n1 c1 : Nat) (a2 : Option Addr) (n2 c2 : Nat) (a3 : Option Addr) (n3 c3 : Nat) : List Value :=
  [.int .i64 (k : Int), .string n, .bool f, .int .u64 (b : Int), .slice a0 n0 c0, .slice a1 n1 c1, .slice a2 n2 c2, .slice a3 n3 c3]
theorem EAt.form {X : Nat → Prop} {w : World} {cs : List Value} {t : TE} (h : EAt X w cs t) : ∃ k n f b a0 n0 c0 a1 n1 c1 a2 n2 c2 a3 n3 c3, cs = eC k n f b a0 n0 c0 a1 n1 c1 a2 n2 c2 a3 n3 c3 := by
  cases h with
  | mk kc bc ac be ae bp an hp hk hk2 hb hb1 hb2 hb3 ha ha1 ha2 ha3 =>
    obtain ⟨_, _, rfl⟩ := RowC.shape hp
    obtain ⟨_, _, rfl⟩ := hk.shape
    obtain ⟨_, _, rfl⟩ := hb.shape
    obtain ⟨_, _, rfl⟩ := ha.shape
    exact ⟨_, _, _, _, _, _, _, _, _, _, _, _, _, _, _, _, rfl⟩
/-- An expression as a value. -/
def EVal (X : Nat → Prop) (w : World) (v : Value) (t : TE) : Prop := ∃ cs : List Value, v = .agg cs.toArray ∧ EAt X w cs t
/-- A bind as a value. -/
def BVal (X : Nat → Prop) (w : World) (v : Value) (t : TB) : Prop :=
  ∃ (pn : Value) (cs : List Value), v = .agg (.string ⟨t.name.toArray⟩ :: pn :: cs).toArray ∧ RowS X w pn t.params ∧ EAt X w cs t.body
/-- An alternative as a value. -/
def AVal (X : Nat → Prop) (w : World) (v : Value) (t : TA) : Prop :=
  ∃ (pn : Value) (cs : List Value), v = .agg (.int .i64 (t.kind : Int) :: .string ⟨t.name.toArray⟩ :: .bool t.flt :: .int .u64 (t.bits : Int) :: pn :: cs).toArray ∧ RowS X w pn t.names ∧ EAt X w cs t.body
/-- What a function that reads an expression does. -/
def Reads (pb : Nat) (vT : Value) (L : List TokV) (fn : Nat) (deep : Int) (ex : PS → TE × PS) : Prop :=
  ∀ w s, PAt w pb vT L s → Calls Tryz.prog fn #[.pointer (some ⟨pb, 0, none⟩), .int .i64 deep] w fun r w' => ∃ v, r = .returned v ∧ EVal (fun b => b < w.heap.size) w' v (ex s).1 ∧ PAt w' pb vT L (ex s).2 ∧ Fr (fun b => b = pb) w w'
theorem RowC.tail {X : Nat → Prop} {w : World} {b off n cap size : Nat} {cs : Nat → List Value} (h : RowC X w (.slice (some ⟨b, off, none⟩) (n + 1) cap) (n + 1) size cs) (A : Option Addr) (hA : 0 < n → A = some ⟨b, off + size, none⟩) : RowC X w (.slice A n (cap - 1)) n size (fun i => cs (i + 1)) := by
  obtain ⟨a1, cap1, e, h1, h2, hc⟩ := h
  cases e
  refine ⟨_, _, rfl, by omega, by omega, fun i hi => ?_⟩
  obtain ⟨b', off', e, hb, hl, hcell⟩ := hc (i + 1) (by omega)
  cases e
  refine ⟨b, off + size, hA (by omega), hb, hl, fun j u hj => ?_⟩
  have := hcell j u hj
  rw [show off + size + i * size + j = off + (i + 1) * size + j by rw [Nat.add_mul]; omega]
  exact this
section
variable {w : World} {pb : Nat} {vT : Value} {L : List TokV} {s : PS} {deep : Nat} {ex : PS → TE × PS}
set_option maxRecDepth 100000 in
set_option maxHeartbeats 2000000 in
theorem pbind_any (h : PAt w pb vT L s) (hd : deep ≤ 1000) (hex : Reads pb vT L 61 ((deep : Int) + 1) ex) :
    Calls Tryz.prog 27 #[.pointer (some ⟨pb, 0, none⟩), .int .i64 (deep : Int)] w fun r w' => ∃ v, r = .returned v ∧ BVal (fun b => b < w.heap.size) w' v (bindF L ex s).1 ∧ PAt w' pb vT L (bindF L ex s).2 ∧ Fr (fun b => b = pb) w w' := by
  obtain ⟨P, hP⟩ : ∃ P, namesF L (fuelP L) true [] s = P := ⟨_, rfl⟩
  obtain ⟨l, s1⟩ := P
  have e0 : bindF L ex s = (.mk (l.headD []) l.tail (ex (needF L [61] s1)).1, (ex (needF L [61] s1)).2) := by unfold bindF; rw [hP]
  rw [e0]
  have hpl := h.blk.lt
  have HP := Lib.hid (And.intro h (And.intro hex hP))
  have i1 : IntKind.i64.wrap ((deep : Int) + 1) = (deep : Int) + 1 := by rw [IntKind.wrap_i64]; omega
  clear h hex hP e0
  go_enter Tryz.func27, Tryz.ntmps27
  go_wp2_with fail
  have fA : Fr Nil w (w.alloc (.cells #[.string ⟨#[]⟩, .slice none 0 0, .int .i64 0, .string ⟨#[]⟩, .bool false, .int .u64 0, .slice none 0 0, .slice none 0 0, .slice none 0 0, .slice none 0 0] 51)) := by (repeat (first | (with_reducible exact Fr.refl _ _) | (with_reducible assumption) | (with_reducible exact Fr.of_nil (by assumption)) | (with_reducible refine Fr.drew ?_) | (with_reducible refine Fr.drewN ?_ _) | (with_reducible refine Fr.alloc ?_ _) | (with_reducible refine Fr.set ?_ _ _ (by first | (intros; omega) | (simp; done) | (simp; omega))) | (with_reducible refine Fr.via ?_ (by assumption)) | (with_reducible refine Fr.comp ?_ (by assumption))))
  have bA := Blk.new w #[.string ⟨#[]⟩, .slice none 0 0, .int .i64 0, .string ⟨#[]⟩, .bool false, .int .u64 0, .slice none 0 0, .slice none 0 0, .slice none 0 0, .slice none 0 0] 51
  refine (pnames_any true (HP.out.1.fr fA)).mono ?_
  rw [HP.out.2.2]
  rintro e w1 ⟨vl, rfl, hl, h1, f1⟩
  obtain ⟨T, hT⟩ : ∃ T, w.heap.size = T := ⟨_, rfl⟩
  have hA : (w.alloc (.cells #[.string ⟨#[]⟩, .slice none 0 0, .int .i64 0, .string ⟨#[]⟩, .bool false, .int .u64 0, .slice none 0 0, .slice none 0 0, .slice none 0 0, .slice none 0 0] 51)).heap.size = T + 1 := by simp [hT]
  rw [hA] at hl
  rw [hT] at hpl bA ⊢
  have F1 : Fr (fun b => b = pb) w w1 := (Fr.of_nil fA).comp f1
  have hne : T ≠ pb := by omega
  have bA1 := f1.blk bA hne
  have H1 := Lib.hid (And.intro h1 (And.intro hl (And.intro F1 bA1)))
  clear h1 hl F1 bA1 bA fA f1 hA
  obtain ⟨av, cv, rfl⟩ := H1.out.2.1.shape
  go_wp2_with fail
  refine (pneed_any [61] H1.out.1).mono ?_
  rintro e w2 ⟨rfl, h2, f2⟩
  have F2 := H1.out.2.2.1.comp f2
  have H2 := Lib.hid (And.intro h2 (And.intro (RowS.fr H1.out.2.1 f2 (fun b q => by have q' : b = pb := q; omega)) (And.intro F2 (f2.blk H1.out.2.2.2 hne))))
  clear h2 F2 f2 H1
  go_wp2_with fail
  refine (HP.out.2.1 _ _ H2.out.1).mono ?_
  rintro e w3 ⟨ve, rfl, he, h3, f3⟩
  have F3 := H2.out.2.2.1.comp f3
  have bA3 := f3.blk H2.out.2.2.2 hne
  obtain ⟨cs, rfl, hE⟩ := he
  obtain ⟨k, nm, fl, bi, a0, n0, c0, a1, n1, c1, a2, n2, c2, a3, n3, c3, rfl⟩ := hE.form
  have hT2 := H2.out.2.2.2.lt
  have hsT := H2.out.2.2.1.size
  have hl3 := RowS.fr H2.out.2.1 f3 (fun b q => by have q' : b = pb := q; omega)
  have H3 := Lib.hid (And.intro h3 (And.intro hl3 hE))
  have hTl := bA3.lt
  have hAc := bA3.cell
  have hAf := bA3.free
  clear h3 f3 H2 bA3 hE
  unfold eC
  have fin : Hid (∀ wf, Fr (fun b => b = T) w3 wf → Fr (fun b => b = pb) w wf ∧ PAt wf pb vT L (ex (needF L [61] s1)).2 ∧ EAt (fun b => b < w.heap.size) wf (eC k nm fl bi a0 n0 c0 a1 n1 c1 a2 n2 c2 a3 n3 c3) (ex (needF L [61] s1)).1 ∧ RowS (fun b => b < T + 1) wf (.slice av l.length cv) l) := fun wf g => by
    have FF : Fr (fun b => b = pb) w wf := F3.trans g (fun b hb q => by have q' : b = T := q; omega)
    exact ⟨FF, HP.out.1.keep FF H3.out.1 g (fun q => hne q.symm), (H3.out.2.2.fr g (fun b q => by have q' : b = T := q; omega)).mono (fun b _ q => by omega), RowS.fr H3.out.2.1 g (fun b q => by have q' : b = T := q; omega)⟩
  cases l with
  | nil =>
    have finN : Hid (∀ wf, Fr (fun b => b = T) w3 wf → ∃ v', Ending.returned (.agg (.string ⟨#[]⟩ :: .slice none 0 0 :: eC k nm fl bi a0 n0 c0 a1 n1 c1 a2 n2 c2 a3 n3 c3).toArray) = .returned v' ∧ BVal (fun b => b < T) wf v' (.mk (([] : List (List UInt8)).headD []) ([] : List (List UInt8)).tail (ex (needF L [61] s1)).1) ∧ PAt wf pb vT L (ex (needF L [61] s1)).2 ∧ Fr (fun b => b = pb) w wf) := fun wf g => by
      obtain ⟨q1, q2, q3, q4⟩ := fin.out wf g
      rw [hT] at q3
      exact ⟨_, rfl, ⟨_, _, rfl, RowC.nil, q3⟩, q2, q1⟩
    simp only [List.length_nil]
    have i2 : ¬ (0 : Int) < ((0 : Nat) : Int) := by omega
    clear hl3 fin
    go_wp2
    (try simp only [Exit.inBlock, Exit.then])
    refine bodyPost_ret (v := .agg (.string ⟨#[]⟩ :: .slice none 0 0 :: eC k nm fl bi a0 n0 c0 a1 n1 c1 a2 n2 c2 a3 n3 c3).toArray) (by simp [results, Tryz.results27, go_sem, eC, *]) rfl ?_
    exact finN.out _ (by (repeat (first | (with_reducible exact Fr.refl _ _) | (with_reducible assumption) | (with_reducible exact Fr.of_nil (by assumption)) | (with_reducible refine Fr.drew ?_) | (with_reducible refine Fr.drewN ?_ _) | (with_reducible refine Fr.alloc ?_ _) | (with_reducible refine Fr.set ?_ _ _ (by first | (intro _; exact rfl) | (intro _; exact .inl rfl) | (intro _; exact .inr rfl) | (intro q; exact absurd q (Nat.lt_irrefl _)) | (intro q; simp at q; omega))) | (with_reducible refine Fr.via ?_ (by assumption)) | (with_reducible refine Fr.comp ?_ (by assumption)))))
  | cons x r =>
    obtain ⟨b0, off0, rfl, hb0, hc0⟩ := RowC.at hl3 (i := 0) (by simp)
    have p0 := hc0 0 _ rfl
    simp at p0
    have hbl := World.block_lt_of_cell? _ _ p0
    obtain ⟨n, hn⟩ : ∃ n, (x :: r).length = n + 1 := ⟨r.length, by simp⟩
    rw [hn] at fin ⊢
    have hcap : n + 1 ≤ cv := by
      obtain ⟨_, _, e, q1, _⟩ := hl3
      cases e
      simpa [← hn] using q1
    have i2 : (0 : Int) < ((n + 1 : Nat) : Int) := by omega
    have i3 : (1 : Int) ≤ ((n + 1 : Nat) : Int) := by omega
    have i4 : ((n + 1 : Nat) : Int) ≤ (cv : Int) := by omega
    have i5 : (1 : Int) ≤ (cv : Int) := by omega
    have HN := Lib.hid (And.intro hn hcap)
    have finR : Hid (∀ wf, Fr (fun b => b = T) w3 wf → ∃ v', Ending.returned (.agg (.string ⟨x.toArray⟩ :: .slice (some ⟨b0, off0 + 1, none⟩) n (cv - 1) :: eC k nm fl bi a0 n0 c0 a1 n1 c1 a2 n2 c2 a3 n3 c3).toArray) = .returned v' ∧ BVal (fun b => b < T) wf v' (.mk ((x :: r).headD []) (x :: r).tail (ex (needF L [61] s1)).1) ∧ PAt wf pb vT L (ex (needF L [61] s1)).2 ∧ Fr (fun b => b = pb) w wf) := fun wf g => by
      obtain ⟨q1, q2, q3, q4⟩ := fin.out wf g
      rw [hT] at q3
      refine ⟨_, rfl, ⟨_, _, rfl, ?_, q3⟩, q2, q1⟩
      have hr : r.length = n := by have := HN.out.1; simp at this; exact this
      have q5 : RowC (fun b => b < T + 1) wf (.slice (some ⟨b0, off0, none⟩) (n + 1) cv) (n + 1) 1 (fun i => [.string ⟨((x :: r).getD i []).toArray⟩]) := by
        have h := q4
        unfold RowS at h
        rw [HN.out.1] at h
        exact h
      have q6 := (RowC.tail q5 (some ⟨b0, off0 + 1, none⟩) (fun hz => rfl)).mono (Y := fun b => b < T) (by decide) (fun b _ q => by omega)
      show RowC _ _ _ r.length 1 _
      rw [hr]
      exact q6.congr (fun i hi => rfl)
    have finL : Hid (cv = 1 → ∀ wf, Fr (fun b => b = T) w3 wf → ∃ v', Ending.returned (.agg (.string ⟨x.toArray⟩ :: .slice (some ⟨b0, off0, none⟩) n 0 :: eC k nm fl bi a0 n0 c0 a1 n1 c1 a2 n2 c2 a3 n3 c3).toArray) = .returned v' ∧ BVal (fun b => b < T) wf v' (.mk ((x :: r).headD []) (x :: r).tail (ex (needF L [61] s1)).1) ∧ PAt wf pb vT L (ex (needF L [61] s1)).2 ∧ Fr (fun b => b = pb) w wf) := fun hc wf g => by
      obtain ⟨q1, q2, q3, q4⟩ := fin.out wf g
      rw [hT] at q3
      refine ⟨_, rfl, ⟨_, _, rfl, ?_, q3⟩, q2, q1⟩
      have hr : r.length = n := by have := HN.out.1; simp at this; exact this
      have q5 : RowC (fun b => b < T + 1) wf (.slice (some ⟨b0, off0, none⟩) (n + 1) cv) (n + 1) 1 (fun i => [.string ⟨((x :: r).getD i []).toArray⟩]) := by
        have h := q4
        unfold RowS at h
        rw [HN.out.1] at h
        exact h
      have q6 := (RowC.tail q5 (some ⟨b0, off0, none⟩) (fun hz => by have := HN.out.2; omega)).mono (Y := fun b => b < T) (by decide) (fun b _ q => by omega)
      show RowC _ _ _ r.length 1 _
      rw [hr]
      rw [show cv - 1 = 0 by omega] at q6
      exact q6.congr (fun i hi => rfl)
    clear hl3 hc0 hn fin
    go_wp2
    case inr =>
      (try simp only [Exit.inBlock, Exit.then])
      refine bodyPost_ret (v := .agg (.string ⟨x.toArray⟩ :: .slice (some ⟨b0, off0 + 1, none⟩) n (cv - 1) :: eC k nm fl bi a0 n0 c0 a1 n1 c1 a2 n2 c2 a3 n3 c3).toArray) (by simp [results, Tryz.results27, go_sem, eC, *]) rfl ?_
      exact finR.out _ (by (repeat (first | (with_reducible exact Fr.refl _ _) | (with_reducible assumption) | (with_reducible exact Fr.of_nil (by assumption)) | (with_reducible refine Fr.drew ?_) | (with_reducible refine Fr.drewN ?_ _) | (with_reducible refine Fr.alloc ?_ _) | (with_reducible refine Fr.set ?_ _ _ (by first | (intro _; exact rfl) | (intro _; exact .inl rfl) | (intro _; exact .inr rfl) | (intro q; exact absurd q (Nat.lt_irrefl _)) | (intro q; simp at q; omega))) | (with_reducible refine Fr.via ?_ (by assumption)) | (with_reducible refine Fr.comp ?_ (by assumption)))))
    case inl =>
      (try simp only [Exit.inBlock, Exit.then])
      refine bodyPost_ret (v := .agg (.string ⟨x.toArray⟩ :: .slice (some ⟨b0, off0, none⟩) n 0 :: eC k nm fl bi a0 n0 c0 a1 n1 c1 a2 n2 c2 a3 n3 c3).toArray) (by simp [results, Tryz.results27, go_sem, eC, *]) rfl ?_
      exact finL.out (by omega) _ (by (repeat (first | (with_reducible exact Fr.refl _ _) | (with_reducible assumption) | (with_reducible exact Fr.of_nil (by assumption)) | (with_reducible refine Fr.drew ?_) | (with_reducible refine Fr.drewN ?_ _) | (with_reducible refine Fr.alloc ?_ _) | (with_reducible refine Fr.set ?_ _ _ (by first | (intro _; exact rfl) | (intro _; exact .inl rfl) | (intro _; exact .inr rfl) | (intro q; exact absurd q (Nat.lt_irrefl _)) | (intro q; simp at q; omega))) | (with_reducible refine Fr.via ?_ (by assumption)) | (with_reducible refine Fr.comp ?_ (by assumption)))))
end
end Go.Proofs.YtlnmicddobgppaaGreatDoor
