/-
  The document's ring (layer 5): All, Shaded, Has, counts. Conditions: short rows.
-/
import Derived.Test.YtlpdlhmdhlcdlaaRef5b
namespace Go.Proofs.Ytlpdlhmdhlcdlaa
set_option linter.unusedSimpArgs false
set_option linter.unusedVariables false
open Go.RowKit Go.Shelf

set_option maxRecDepth 100000 in
theorem all_any {X : Nat → Prop} (sb m : Nat) (S : Seg4) (w : World) (h : RefR w X sb m S) (hl : S.all.length ≤ 100000) :
    Calls Try.prog 28 #[.pointer (some ⟨sb, 0, none⟩)] w fun e w' => ∃ v', e = .returned v' ∧ RowN w.heap.size w' v' S.all ∧ Fr Nil w w' := by
  obtain ⟨v0, v1, v2, v3, hb, h0, h1, h2, h3⟩ := h.blk
  have c0 := hb.cell 0
  have c1 := hb.cell 1
  have c2 := hb.cell 2
  have c3 := hb.cell 3
  simp at c0 c1 c2 c3
  have lt := hb.lt
  obtain ⟨x0, k0, rfl, _⟩ := h0.fit
  obtain ⟨x1, k1, rfl, _⟩ := h1.fit
  obtain ⟨x2, k2, rfl, _⟩ := h2.fit
  obtain ⟨x3, k3, rfl, _⟩ := h3.fit
  have HA := Lib.hid (around_any S _ _ _ _ w h0 h1 h2 h3 hl)
  clear hb h0 h1 h2 h3 h
  go_enter Try.func28, Try.ntmps28
  go_wp2_with fail
  refine HA.out.mono ?_
  rintro e w1 ⟨v', rfl, hr, f1⟩
  go_wp2
  go_ret
  exact ⟨_, rfl, hr, f1⟩
/-- Which From cell a call names. -/
theorem shaded_none {X : Nat → Prop} (sb m : Nat) (S : Seg4) (x : Int) (w : World) (h : RefR w X sb m S) (hF : S.F = []) :
    Calls Try.prog 22 #[.pointer (some ⟨sb, 0, none⟩), .int .i64 x] w fun e w' => e = .returned (.int .i64 (-1)) ∧ Fr Nil w w' := by
  obtain ⟨v0, v1, v2, v3, hb, h0, h1, h2, h3⟩ := h.blk
  have c1 := hb.cell 1
  simp at c1
  have lt := hb.lt
  obtain ⟨x1, k1, rfl, _⟩ := h1.fit
  rw [hF] at c1
  simp only [List.length_nil] at c1
  clear hb h0 h1 h2 h3 h
  go_enter Try.func22, Try.ntmps22
  go_wp2
  go_ret
  exact ⟨rfl, by (repeat (first | (with_reducible exact Fr.refl _ _) | (with_reducible assumption) | (with_reducible exact Fr.of_nil (by assumption)) | (with_reducible refine Fr.drew ?_) | (with_reducible refine Fr.drewN ?_ _) | (with_reducible refine Fr.alloc ?_ _) | (with_reducible refine Fr.set ?_ _ _ (by first | (intros; omega) | (simp; done) | (simp; omega))) | (with_reducible refine Fr.via ?_ (by assumption)) | (with_reducible refine Fr.comp ?_ (by assumption))))⟩
theorem shaded_some {X : Nat → Prop} (sb m : Nat) (S : Seg4) (x : Int) (F1 F2 : List Nat) (c : Nat) (w : World) (h : RefR w X sb m S) (hF : S.F = F1 ++ c :: F2) (hl : S.F.length ≤ 100000) (hx : (x.tmod (S.F.length : Int)).natAbs = F1.length) :
    Calls Try.prog 22 #[.pointer (some ⟨sb, 0, none⟩), .int .i64 x] w fun e w' => e = .returned (.int .i64 (c : Int)) ∧ Fr Nil w w' := by
  obtain ⟨v0, v1, v2, v3, hb, h0, h1, h2, h3⟩ := h.blk
  have c1 := hb.cell 1
  simp at c1
  have lt := hb.lt
  have hlen : F1.length < S.F.length := by rw [hF]; simp
  obtain ⟨g, cap, rfl, hfc, hsg, hgl, hc⟩ := h1.form (by omega)
  have p0 := hc F1.length hlen
  have e : S.F[F1.length] = c := by simp [hF]
  rw [e, natV] at p0
  obtain ⟨n, hn⟩ : ∃ n, S.F.length = n := ⟨_, rfl⟩
  obtain ⟨k, hk⟩ : ∃ k, F1.length = k := ⟨_, rfl⟩
  rw [hn] at hx hlen hfc hl c1
  rw [hk] at hx hlen p0
  have hn0 : ((n : Int) == 0) = false := by simp; omega
  have hn1 : ¬ (n : Int) = 0 := by omega
  have hn2 : ¬ n = 0 := by omega
  obtain ⟨t, ht⟩ : ∃ t, x.tmod (n : Int) = t := ⟨_, rfl⟩
  have a1 : (0 : Int) ≤ (k : Int) := by omega
  have a2 : (k : Int) < (n : Int) := by omega
  rw [ht] at hx
  have hkk : t = (k : Int) ∨ (t = - (k : Int) ∧ t < 0) := by omega
  clear hb h0 h1 h2 h3 h hc e hn hk hF hx
  rcases hkk with rfl | ⟨rfl, hneg⟩
  · have b1 : IntKind.i64.wrap (k : Int) = (k : Int) := by rw [IntKind.wrap_i64]; omega
    have b2 : ¬ (k : Int) < 0 := by omega
    go_enter Try.func22, Try.ntmps22
    go_wp2
    go_ret
    exact ⟨rfl, by (repeat (first | (with_reducible exact Fr.refl _ _) | (with_reducible assumption) | (with_reducible exact Fr.of_nil (by assumption)) | (with_reducible refine Fr.drew ?_) | (with_reducible refine Fr.drewN ?_ _) | (with_reducible refine Fr.alloc ?_ _) | (with_reducible refine Fr.set ?_ _ _ (by first | (intros; omega) | (simp; done) | (simp; omega))) | (with_reducible refine Fr.via ?_ (by assumption)) | (with_reducible refine Fr.comp ?_ (by assumption))))⟩
  · have b1 : IntKind.i64.wrap (-(k : Int)) = -(k : Int) := by rw [IntKind.wrap_i64]; omega
    have b3 : IntKind.i64.wrap (k : Int) = (k : Int) := by rw [IntKind.wrap_i64]; omega
    go_enter Try.func22, Try.ntmps22
    go_wp2
    go_ret
    exact ⟨rfl, by (repeat (first | (with_reducible exact Fr.refl _ _) | (with_reducible assumption) | (with_reducible exact Fr.of_nil (by assumption)) | (with_reducible refine Fr.drew ?_) | (with_reducible refine Fr.drewN ?_ _) | (with_reducible refine Fr.alloc ?_ _) | (with_reducible refine Fr.set ?_ _ _ (by first | (intros; omega) | (simp; done) | (simp; omega))) | (with_reducible refine Fr.via ?_ (by assumption)) | (with_reducible refine Fr.comp ?_ (by assumption))))⟩
end Go.Proofs.Ytlpdlhmdhlcdlaa
