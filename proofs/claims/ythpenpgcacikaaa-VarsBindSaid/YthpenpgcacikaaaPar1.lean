/-
  Reading tokens (layer 8): fault, kind, sees, need, token, starts. No conditions.
-/
import Derived.Test.YthpenpgcacikaaaParV
import Derived.BigQuiet
import Derived.StillTailTactics
namespace Go.Proofs.Ythpenpgcacikaaa
set_option linter.unusedSimpArgs false
set_option linter.unusedVariables false
open Go.RowKit

section
variable {w : World} {pb : Nat} {vT : Value} {L : List TokV} {s : PS}
theorem PAt.facts (h : PAt w pb vT L s) : w.cell? ⟨pb, 0, none⟩ = some vT ∧ w.cell? ⟨pb, 1, none⟩ = some (.int .i64 (s.at_ : Int)) ∧ w.cell? ⟨pb, 2, none⟩ = some (.int .i64 (s.e : Int)) ∧ w.cell? ⟨pb, 3, none⟩ = some (.int .i64 (s.line : Int)) ∧ (∀ o, w.frozen? ⟨pb, o, none⟩ = false) ∧ pb < w.heap.size := by
  have h0 := h.blk.cell 0
  have h1 := h.blk.cell 1
  have h2 := h.blk.cell 2
  have h3 := h.blk.cell 3
  simp at h0 h1 h2 h3
  exact ⟨h0, h1, h2, h3, fun o => h.blk.free o, h.blk.lt⟩
/-- The token at a place. -/
theorem PAt.tok {a : Option Addr} {cap : Nat} (h : PAt w pb (.slice a L.length cap) L s) {i : Nat} (hi : i < L.length) : ∃ b off, a = some ⟨b, off, none⟩ ∧ b < w.heap.size ∧ b ≠ pb ∧ w.cell? ⟨b, off + i * 5, none⟩ = some (.int .i64 L[i].kind) ∧ w.cell? ⟨b, off + i * 5 + 1, none⟩ = some (.string ⟨L[i].text.toArray⟩) ∧ w.cell? ⟨b, off + i * 5 + 2, none⟩ = some (.bool L[i].flt) ∧ w.cell? ⟨b, off + i * 5 + 3, none⟩ = some (.int .u64 (L[i].bits : Int)) ∧ w.cell? ⟨b, off + i * 5 + 4, none⟩ = some (.int .i64 (L[i].line : Int)) := by
  obtain ⟨b, off, rfl, hb, hc⟩ := h.toks.at hi
  have e : L.getD i (none_ 0) = L[i] := by simp [List.getD, hi]
  rw [e] at hc
  have h0 := hc 0 _ rfl
  exact ⟨b, off, rfl, World.block_lt_of_cell? _ _ h0, hb, h0, hc 1 _ rfl, hc 2 _ rfl, hc 3 _ rfl, hc 4 _ rfl⟩
theorem pkind_any (h : PAt w pb vT L s) :
    Calls Try.prog 58 #[.pointer (some ⟨pb, 0, none⟩)] w fun e w' => e = .returned (.int .i64 (kindP L s)) ∧ Fr Nil w w' := by
  obtain ⟨a, cap, rfl⟩ := h.toks.shape
  obtain ⟨p0, p1, p2, p3, pf, pl⟩ := h.facts
  obtain ⟨n, hn⟩ : ∃ n, L.length = n := ⟨_, rfl⟩
  by_cases hlt : s.at_ < L.length
  · obtain ⟨b, off, rfl, hb, hbp, t0, t1, t2, t3, t4⟩ := h.tok hlt
    have e : kindP L s = L[s.at_].kind := by simp [kindP, List.getElem?_eq_getElem hlt]
    rw [e]
    rw [hn] at p0 hlt
    generalize L[s.at_].kind = kd at t0 ⊢
    have i1 : (s.at_ : Int) < (n : Int) := by omega
    have i0 : (0 : Int) ≤ (s.at_ : Int) := by omega
    clear h t1 t2 t3 t4 hn p2 p3 e
    go_enter Try.func58, Try.ntmps58
    go_wp2
    go_quiet (fail)
    go_wp2
    go_quiet (fail)
    go_wp2
    go_ret
    exact ⟨rfl, by (repeat (first | (with_reducible exact Fr.refl _ _) | (with_reducible assumption) | (with_reducible exact Fr.of_nil (by assumption)) | (with_reducible refine Fr.drew ?_) | (with_reducible refine Fr.drewN ?_ _) | (with_reducible refine Fr.alloc ?_ _) | (with_reducible refine Fr.set ?_ _ _ (by first | (intros; omega) | (simp; done) | (simp; omega))) | (with_reducible refine Fr.via ?_ (by assumption)) | (with_reducible refine Fr.comp ?_ (by assumption))))⟩
  · have e : kindP L s = 0 := by simp [kindP, List.getElem?_eq_none (Nat.le_of_not_lt hlt)]
    rw [e]
    rw [hn] at p0 hlt
    have i1 : ¬ (s.at_ : Int) < (n : Int) := by omega
    clear h hn p2 p3 e
    go_enter Try.func58, Try.ntmps58
    go_wp2
    go_quiet (fail)
    go_wp2
    go_ret
    exact ⟨rfl, by (repeat (first | (with_reducible exact Fr.refl _ _) | (with_reducible assumption) | (with_reducible exact Fr.of_nil (by assumption)) | (with_reducible refine Fr.drew ?_) | (with_reducible refine Fr.drewN ?_ _) | (with_reducible refine Fr.alloc ?_ _) | (with_reducible refine Fr.set ?_ _ _ (by first | (intros; omega) | (simp; done) | (simp; omega))) | (with_reducible refine Fr.via ?_ (by assumption)) | (with_reducible refine Fr.comp ?_ (by assumption))))⟩
theorem psees_any (x : List UInt8) (h : PAt w pb vT L s) :
    Calls Try.prog 37 #[.pointer (some ⟨pb, 0, none⟩), .string ⟨x.toArray⟩] w fun e w' => e = .returned (.bool (seesF L x s)) ∧ Fr Nil w w' := by
  have HP := Lib.hid h
  have HK := Lib.hid (pkind_any h)
  by_cases hk : kindP L s = 5 ∨ kindP L s = 6
  · have hlt : s.at_ < L.length := by rcases hk with q | q <;> exact kind_lt q (by decide)
    obtain ⟨a, cap, rfl⟩ := h.toks.shape
    have e : seesF L x s = (L[s.at_].text == x) := by
      have ek : kindP L s = L[s.at_].kind := by simp [kindP, List.getElem?_eq_getElem hlt]
      rw [ek] at hk
      unfold seesF
      rw [List.getElem?_eq_getElem hlt]
      rw [Bool.beq_eq_decide_eq]
      rcases hk with q | q <;> simp [q]
    obtain ⟨tx, htx⟩ : ∃ tx, L[s.at_].text = tx := ⟨_, rfl⟩
    rw [e, htx]
    obtain ⟨n, hn⟩ : ∃ n, L.length = n := ⟨_, rfl⟩
    clear h
    go_enter Try.func37, Try.ntmps37
    go_wp2_with fail
    refine HK.out.mono ?_
    rintro e w1 ⟨rfl, f1⟩
    have h1 := HP.out.fr f1
    obtain ⟨p0, p1, p2, p3, pf, pl⟩ := h1.facts
    obtain ⟨b, off, rfl, hb, hbp, t0, t1, t2, t3, t4⟩ := h1.tok hlt
    rw [hn] at p0 hlt
    rw [htx] at t1
    have i1 : (s.at_ : Int) < (n : Int) := by omega
    have i0 : (0 : Int) ≤ (s.at_ : Int) := by omega
    clear h1 t0 t2 t3 t4 p2 p3 hn htx e
    rcases hk with q | q
    · rw [q]
      go_wp2
      go_quiet (fail)
      go_wp2
      go_ret
      exact ⟨rfl, by (repeat (first | (with_reducible exact Fr.refl _ _) | (with_reducible assumption) | (with_reducible exact Fr.of_nil (by assumption)) | (with_reducible refine Fr.drew ?_) | (with_reducible refine Fr.drewN ?_ _) | (with_reducible refine Fr.alloc ?_ _) | (with_reducible refine Fr.set ?_ _ _ (by first | (intros; omega) | (simp; done) | (simp; omega))) | (with_reducible refine Fr.via ?_ (by assumption)) | (with_reducible refine Fr.comp ?_ (by assumption))))⟩
    · rw [q]
      go_wp2
      go_quiet (fail)
      go_wp2
      go_ret
      exact ⟨rfl, by (repeat (first | (with_reducible exact Fr.refl _ _) | (with_reducible assumption) | (with_reducible exact Fr.of_nil (by assumption)) | (with_reducible refine Fr.drew ?_) | (with_reducible refine Fr.drewN ?_ _) | (with_reducible refine Fr.alloc ?_ _) | (with_reducible refine Fr.set ?_ _ _ (by first | (intros; omega) | (simp; done) | (simp; omega))) | (with_reducible refine Fr.via ?_ (by assumption)) | (with_reducible refine Fr.comp ?_ (by assumption))))⟩
  · have e : seesF L x s = false := by
      unfold seesF
      split
      · rename_i t ht
        have ek : kindP L s = t.kind := by simp [kindP, ht]
        rw [ek] at hk
        have h5 : ¬ t.kind = 5 := fun q => hk (.inl q)
        have h6 : ¬ t.kind = 6 := fun q => hk (.inr q)
        simp [h5, h6]
      · rfl
    rw [e]
    generalize kindP L s = kd at hk HK
    have h5 : ¬ kd = 5 := fun q => hk (.inl q)
    have h6 : ¬ kd = 6 := fun q => hk (.inr q)
    have d5 := decide_eq_false h5
    have d6 := decide_eq_false h6
    clear h e hk
    go_enter Try.func37, Try.ntmps37
    go_wp2_with fail
    refine HK.out.mono ?_
    rintro e w1 ⟨rfl, f1⟩
    go_wp2
    go_quiet (fail)
    go_wp2
    go_ret
    exact ⟨rfl, by (repeat (first | (with_reducible exact Fr.refl _ _) | (with_reducible assumption) | (with_reducible exact Fr.of_nil (by assumption)) | (with_reducible refine Fr.drew ?_) | (with_reducible refine Fr.drewN ?_ _) | (with_reducible refine Fr.alloc ?_ _) | (with_reducible refine Fr.set ?_ _ _ (by first | (intros; omega) | (simp; done) | (simp; omega))) | (with_reducible refine Fr.via ?_ (by assumption)) | (with_reducible refine Fr.comp ?_ (by assumption))))⟩
set_option maxRecDepth 100000 in
theorem pfault_any (e : Nat) (h : PAt w pb vT L s) :
    Calls Try.prog 60 #[.pointer (some ⟨pb, 0, none⟩), .int .i64 (e : Int)] w fun r w' => r = .returned (.tuple #[]) ∧ PAt w' pb vT L (faultF L e s) ∧ Fr (fun b => b = pb) w w' := by
  obtain ⟨p0, p1, p2, p3, pf, pl⟩ := h.facts
  have HP := Lib.hid h
  by_cases he : s.e = 0
  · by_cases hlt : s.at_ < L.length
    · obtain ⟨a, cap, rfl⟩ := h.toks.shape
      obtain ⟨b, off, rfl, hb, hbp, t0, t1, t2, t3, t4⟩ := h.tok hlt
      have e1 : faultF L e s = ⟨s.at_, e, L[s.at_].line⟩ := by unfold faultF; rw [if_neg (by simpa using he), List.getElem?_eq_getElem hlt]
      rw [e1]
      obtain ⟨ln, hln⟩ : ∃ ln, L[s.at_].line = ln := ⟨_, rfl⟩
      rw [hln] at t4 ⊢
      obtain ⟨n, hn⟩ : ∃ n, L.length = n := ⟨_, rfl⟩
      have i0 : (0 : Int) ≤ (s.at_ : Int) := by omega
      have i1 : (s.at_ : Int) < (n : Int) := by omega
      have i2 : (s.e : Int) = 0 := by omega
      have d2 := decide_eq_true i2
      have hle : s.at_ ≤ L.length := by omega
      rw [hn] at p0
      clear h e1 t0 t1 t2 t3 hln
      go_enter Try.func60, Try.ntmps60
      go_upto_region 2 with fail
      obtain ⟨V, hV⟩ : ∃ V, w.setCell ⟨pb, 2, none⟩ (.int .i64 (e : Int)) = V := ⟨_, rfl⟩
      rw [hV]
      have bV : Blk V pb #[.slice (some ⟨b, off, none⟩) L.length cap, .int .i64 (s.at_ : Int), .int .i64 (e : Int), .int .i64 (s.line : Int)] 85 := by
        rw [← hV]
        (unfold Blk; simp (disch := first | omega | (simp; done) | (simp; omega)) only [hp_drew, hp_drewN, hp_alloc, hp_other, hp_same, hp_new, upd_cells, Option.map_some, (HP.out.blk).eq])
        simp
      have fV : Fr (fun b => b = pb) w V := by rw [← hV]; (repeat (first | (with_reducible exact Fr.refl _ _) | (with_reducible assumption) | (with_reducible exact Fr.of_nil (by assumption)) | (with_reducible refine Fr.drew ?_) | (with_reducible refine Fr.drewN ?_ _) | (with_reducible refine Fr.alloc ?_ _) | (with_reducible refine Fr.set ?_ _ _ (by first | (intro _; exact rfl) | (intro _; exact .inl rfl) | (intro _; exact .inr rfl) | (intro q; exact absurd q (Nat.lt_irrefl _)) | (intro q; simp at q; omega))) | (with_reducible refine Fr.via ?_ (by assumption)) | (with_reducible refine Fr.comp ?_ (by assumption))))
      clear hV p0 p1 p2 p3 pf pl
      have p0 := bV.cell 0
      have p1 := bV.cell 1
      have p2 := bV.cell 2
      have p3 := bV.cell 3
      simp only [hn] at p0 p1 p2 p3
      simp at p0 p1 p2 p3
      have pf := bV.free
      have pl := bV.lt
      have t4 := fV.cell t4 hbp
      have hb := fV.lt hb
      have HV := Lib.hid (And.intro bV fV)
      clear bV fV
      go_quiet (fail)
      go_upto_region 3 with fail
      obtain ⟨V2, hV2⟩ : ∃ V2, V.drewN nq = V2 := ⟨_, rfl⟩
      rw [hV2]
      have f2 : Fr Nil V V2 := by rw [← hV2]; (repeat (first | (with_reducible exact Fr.refl _ _) | (with_reducible assumption) | (with_reducible exact Fr.of_nil (by assumption)) | (with_reducible refine Fr.drew ?_) | (with_reducible refine Fr.drewN ?_ _) | (with_reducible refine Fr.alloc ?_ _) | (with_reducible refine Fr.set ?_ _ _ (by first | (intros; omega) | (simp; done) | (simp; omega))) | (with_reducible refine Fr.via ?_ (by assumption)) | (with_reducible refine Fr.comp ?_ (by assumption))))
      have p0 := f2.cell p0 (by simp [Nil])
      have p1 := f2.cell p1 (by simp [Nil])
      have p3 := f2.cell p3 (by simp [Nil])
      have t4 := f2.cell t4 (by simp [Nil])
      have hb := f2.lt hb
      have pl := f2.lt pl
      have b2 := f2.blk HV.out.1 (fun q => q)
      have pf := b2.free
      have HV2 := Lib.hid (And.intro b2 (HV.out.2.via f2))
      clear hV2 b2 f2
      go_still_tail 14, (by kernel_rfl)
      change wpList _ _ _ _ _ V2.drew
      go_wp2
      ((try simp only [Exit.inBlock, Exit.then]); refine bodyPost_ret (results_none rfl _ _ _) rfl ?_)
      exact ⟨rfl, HP.out.to (HV2.out.2.comp (by (repeat (first | (with_reducible exact Fr.refl _ _) | (with_reducible assumption) | (with_reducible exact Fr.of_nil (by assumption)) | (with_reducible refine Fr.drew ?_) | (with_reducible refine Fr.drewN ?_ _) | (with_reducible refine Fr.alloc ?_ _) | (with_reducible refine Fr.set ?_ _ _ (by first | (intro _; exact rfl) | (intro _; exact .inl rfl) | (intro _; exact .inr rfl) | (intro q; exact absurd q (Nat.lt_irrefl _)) | (intro q; simp at q; omega))) | (with_reducible refine Fr.via ?_ (by assumption)) | (with_reducible refine Fr.comp ?_ (by assumption)))))) (by (unfold Blk; simp (disch := first | omega | (simp; done) | (simp; omega)) only [hp_drew, hp_drewN, hp_alloc, hp_other, hp_same, hp_new, upd_cells, Option.map_some, (HV2.out.1).eq]); simp [hn]) hle, HV2.out.2.comp (by (repeat (first | (with_reducible exact Fr.refl _ _) | (with_reducible assumption) | (with_reducible exact Fr.of_nil (by assumption)) | (with_reducible refine Fr.drew ?_) | (with_reducible refine Fr.drewN ?_ _) | (with_reducible refine Fr.alloc ?_ _) | (with_reducible refine Fr.set ?_ _ _ (by first | (intro _; exact rfl) | (intro _; exact .inl rfl) | (intro _; exact .inr rfl) | (intro q; exact absurd q (Nat.lt_irrefl _)) | (intro q; simp at q; omega))) | (with_reducible refine Fr.via ?_ (by assumption)) | (with_reducible refine Fr.comp ?_ (by assumption)))))⟩
    · have hge : L.length ≤ s.at_ := by omega
      have e1 : faultF L e s = ⟨s.at_, 17, (L.getLast?.map (·.line)).getD 1⟩ := by unfold faultF; rw [if_neg (by simpa using he), List.getElem?_eq_none hge]
      rw [e1]
      have i2 : (s.e : Int) = 0 := by omega
      have d2 := decide_eq_true i2
      have hle : s.at_ ≤ L.length := h.le
      obtain ⟨a, cap, rfl⟩ := h.toks.shape
      by_cases hz : 0 < L.length
      · have hl1 : L.length - 1 < L.length := by omega
        obtain ⟨b, off, rfl, hb, hbp, t0, t1, t2, t3, t4⟩ := h.tok hl1
        have e2 : (L.getLast?.map (·.line)).getD 1 = L[L.length - 1].line := by rw [List.getLast?_eq_getElem?, List.getElem?_eq_getElem hl1]; rfl
        rw [e2]
        obtain ⟨ln, hln⟩ : ∃ ln, L[L.length - 1].line = ln := ⟨_, rfl⟩
        rw [hln] at t4 ⊢
        obtain ⟨n, hn⟩ : ∃ n, L.length = n := ⟨_, rfl⟩
        rw [hn] at p0 t4
        obtain ⟨n1, hn1⟩ : ∃ n1, n = n1 + 1 := ⟨n - 1, by omega⟩
        rw [show n - 1 = n1 by omega] at t4
        have i1 : ¬ (s.at_ : Int) < (n : Int) := by omega
        have i3 : (0 : Int) < (n : Int) := by omega
        have i4 : IntKind.i64.wrap ((n : Int) - 1) = (n1 : Int) := by have := h.sz; rw [IntKind.wrap_i64]; omega
        have i5 : (0 : Int) ≤ (n1 : Int) := by omega
        have i6 : (n1 : Int) < (n : Int) := by omega
        clear h e1 e2 t0 t1 t2 t3 hln hn1
        go_enter Try.func60, Try.ntmps60
        go_upto_region 2 with fail
        obtain ⟨V, hV⟩ : ∃ V, w.setCell ⟨pb, 2, none⟩ (.int .i64 (e : Int)) = V := ⟨_, rfl⟩
        rw [hV]
        have bV : Blk V pb #[.slice (some ⟨b, off, none⟩) L.length cap, .int .i64 (s.at_ : Int), .int .i64 (e : Int), .int .i64 (s.line : Int)] 85 := by
          rw [← hV]
          (unfold Blk; simp (disch := first | omega | (simp; done) | (simp; omega)) only [hp_drew, hp_drewN, hp_alloc, hp_other, hp_same, hp_new, upd_cells, Option.map_some, (HP.out.blk).eq])
          simp
        have fV : Fr (fun b => b = pb) w V := by rw [← hV]; (repeat (first | (with_reducible exact Fr.refl _ _) | (with_reducible assumption) | (with_reducible exact Fr.of_nil (by assumption)) | (with_reducible refine Fr.drew ?_) | (with_reducible refine Fr.drewN ?_ _) | (with_reducible refine Fr.alloc ?_ _) | (with_reducible refine Fr.set ?_ _ _ (by first | (intro _; exact rfl) | (intro _; exact .inl rfl) | (intro _; exact .inr rfl) | (intro q; exact absurd q (Nat.lt_irrefl _)) | (intro q; simp at q; omega))) | (with_reducible refine Fr.via ?_ (by assumption)) | (with_reducible refine Fr.comp ?_ (by assumption))))
        clear hV p0 p1 p2 p3 pf pl
        have p0 := bV.cell 0
        have p1 := bV.cell 1
        have p2 := bV.cell 2
        have p3 := bV.cell 3
        simp only [hn] at p0 p1 p2 p3
        simp at p0 p1 p2 p3
        have pf := bV.free
        have pl := bV.lt
        have t4 := fV.cell t4 hbp
        have hb := fV.lt hb
        have HV := Lib.hid (And.intro bV fV)
        clear bV fV
        go_quiet (fail)
        go_upto_region 7 with fail
        obtain ⟨V2, hV2⟩ : ∃ V2, ((V.drewN nq).setCell ⟨pb, 2, none⟩ (.int .i64 17)).setCell ⟨pb, 3, none⟩ (.int .i64 1) = V2 := ⟨_, rfl⟩
        rw [hV2]
        have b2 : Blk V2 pb #[.slice (some ⟨b, off, none⟩) L.length cap, .int .i64 (s.at_ : Int), .int .i64 17, .int .i64 1] 85 := by
          rw [← hV2]
          (unfold Blk; simp (disch := first | omega | (simp; done) | (simp; omega)) only [hp_drew, hp_drewN, hp_alloc, hp_other, hp_same, hp_new, upd_cells, Option.map_some, (HV.out.1).eq])
          simp
        have f2 : Fr (fun b => b = pb) V V2 := by rw [← hV2]; (repeat (first | (with_reducible exact Fr.refl _ _) | (with_reducible assumption) | (with_reducible exact Fr.of_nil (by assumption)) | (with_reducible refine Fr.drew ?_) | (with_reducible refine Fr.drewN ?_ _) | (with_reducible refine Fr.alloc ?_ _) | (with_reducible refine Fr.set ?_ _ _ (by first | (intro _; exact rfl) | (intro _; exact .inl rfl) | (intro _; exact .inr rfl) | (intro q; exact absurd q (Nat.lt_irrefl _)) | (intro q; simp at q; omega))) | (with_reducible refine Fr.via ?_ (by assumption)) | (with_reducible refine Fr.comp ?_ (by assumption))))
        have t4 := f2.cell t4 hbp
        have hb := f2.lt hb
        clear hV2 p0 p1 p2 p3 pf pl
        have p0 := b2.cell 0
        have p3 := b2.cell 3
        simp only [hn] at p0 p3
        simp at p0 p3
        have pf := b2.free
        have pl := b2.lt
        have HV2 := Lib.hid (And.intro b2 (HV.out.2.comp f2))
        clear b2 f2
        go_still_tail 16, (by kernel_rfl)
        change wpList _ _ _ _ _ V2.drew
        go_wp2
        go_end0
        rw [← hn]
        exact ⟨rfl, HP.out.to (t := ⟨s.at_, 17, ln⟩) (HV2.out.2.comp (by (repeat (first | (with_reducible exact Fr.refl _ _) | (with_reducible assumption) | (with_reducible exact Fr.of_nil (by assumption)) | (with_reducible refine Fr.drew ?_) | (with_reducible refine Fr.drewN ?_ _) | (with_reducible refine Fr.alloc ?_ _) | (with_reducible refine Fr.set ?_ _ _ (by first | (intro _; exact rfl) | (intro _; exact .inl rfl) | (intro _; exact .inr rfl) | (intro q; exact absurd q (Nat.lt_irrefl _)) | (intro q; simp at q; omega))) | (with_reducible refine Fr.via ?_ (by assumption)) | (with_reducible refine Fr.comp ?_ (by assumption)))))) (by (unfold Blk; simp (disch := first | omega | (simp; done) | (simp; omega)) only [hp_drew, hp_drewN, hp_alloc, hp_other, hp_same, hp_new, upd_cells, Option.map_some, (HV2.out.1).eq]); simp [hn]) hle, HV2.out.2.comp (by (repeat (first | (with_reducible exact Fr.refl _ _) | (with_reducible assumption) | (with_reducible exact Fr.of_nil (by assumption)) | (with_reducible refine Fr.drew ?_) | (with_reducible refine Fr.drewN ?_ _) | (with_reducible refine Fr.alloc ?_ _) | (with_reducible refine Fr.set ?_ _ _ (by first | (intro _; exact rfl) | (intro _; exact .inl rfl) | (intro _; exact .inr rfl) | (intro q; exact absurd q (Nat.lt_irrefl _)) | (intro q; simp at q; omega))) | (with_reducible refine Fr.via ?_ (by assumption)) | (with_reducible refine Fr.comp ?_ (by assumption)))))⟩
      · have hL : L = [] := List.eq_nil_of_length_eq_zero (by omega)
        subst hL
        have i1 : ¬ (s.at_ : Int) < ((0 : Nat) : Int) := by omega
        have i3 : ¬ (0 : Int) < ((0 : Nat) : Int) := by omega
        simp only [List.length_nil] at p0
        clear h e1
        go_enter Try.func60, Try.ntmps60
        go_wp2
        go_quiet (fail)
        go_wp2
        go_end0
        exact ⟨rfl, HP.out.to (by (repeat (first | (with_reducible exact Fr.refl _ _) | (with_reducible assumption) | (with_reducible exact Fr.of_nil (by assumption)) | (with_reducible refine Fr.drew ?_) | (with_reducible refine Fr.drewN ?_ _) | (with_reducible refine Fr.alloc ?_ _) | (with_reducible refine Fr.set ?_ _ _ (by first | (intro _; exact rfl) | (intro _; exact .inl rfl) | (intro _; exact .inr rfl) | (intro q; exact absurd q (Nat.lt_irrefl _)) | (intro q; simp at q; omega))) | (with_reducible refine Fr.via ?_ (by assumption)) | (with_reducible refine Fr.comp ?_ (by assumption))))) (by (unfold Blk; simp (disch := first | omega | (simp; done) | (simp; omega)) only [hp_drew, hp_drewN, hp_alloc, hp_other, hp_same, hp_new, upd_cells, Option.map_some, (HP.out.blk).eq]); simp) hle, by (repeat (first | (with_reducible exact Fr.refl _ _) | (with_reducible assumption) | (with_reducible exact Fr.of_nil (by assumption)) | (with_reducible refine Fr.drew ?_) | (with_reducible refine Fr.drewN ?_ _) | (with_reducible refine Fr.alloc ?_ _) | (with_reducible refine Fr.set ?_ _ _ (by first | (intro _; exact rfl) | (intro _; exact .inl rfl) | (intro _; exact .inr rfl) | (intro q; exact absurd q (Nat.lt_irrefl _)) | (intro q; simp at q; omega))) | (with_reducible refine Fr.via ?_ (by assumption)) | (with_reducible refine Fr.comp ?_ (by assumption))))⟩
  · have e1 : faultF L e s = s := by unfold faultF; rw [if_pos he]
    rw [e1]
    have i1 : ¬ (s.e : Int) = 0 := by omega
    have d1 := decide_eq_false i1
    clear h e1
    go_enter Try.func60, Try.ntmps60
    go_wp2
    ((try simp only [Exit.inBlock, Exit.then]); refine bodyPost_ret (results_none rfl _ _ _) rfl ?_)
    exact ⟨rfl, HP.out.fr (by (repeat (first | (with_reducible exact Fr.refl _ _) | (with_reducible assumption) | (with_reducible exact Fr.of_nil (by assumption)) | (with_reducible refine Fr.drew ?_) | (with_reducible refine Fr.drewN ?_ _) | (with_reducible refine Fr.alloc ?_ _) | (with_reducible refine Fr.set ?_ _ _ (by first | (intros; omega) | (simp; done) | (simp; omega))) | (with_reducible refine Fr.via ?_ (by assumption)) | (with_reducible refine Fr.comp ?_ (by assumption))))), by (repeat (first | (with_reducible exact Fr.refl _ _) | (with_reducible assumption) | (with_reducible exact Fr.of_nil (by assumption)) | (with_reducible refine Fr.drew ?_) | (with_reducible refine Fr.drewN ?_ _) | (with_reducible refine Fr.alloc ?_ _) | (with_reducible refine Fr.set ?_ _ _ (by first | (intros; omega) | (simp; done) | (simp; omega))) | (with_reducible refine Fr.via ?_ (by assumption)) | (with_reducible refine Fr.comp ?_ (by assumption))))⟩
end
end Go.Proofs.Ythpenpgcacikaaa
