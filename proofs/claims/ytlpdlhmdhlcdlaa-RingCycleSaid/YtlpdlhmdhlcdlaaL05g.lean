/-
  Layer 5: Linked. Conditions: the cells go around.
-/
import Derived.Test.YtlpdlhmdhlcdlaaL05f
namespace Go.Proofs.Ytlpdlhmdhlcdlaa
set_option linter.unusedSimpArgs false
set_option linter.unusedVariables false
open Go.RowKit Go.Shelf

theorem ch_at {l : List Int} : ∀ {M : List Nat}, Ch l M → ∀ i (h : i + 1 < M.length), nth l (M[i] + 1) = (M[i + 1] : Int) ∧ nth l (M[i + 1] + 2) = (M[i] : Int)
  | [], _, i, h => by simp at h
  | [a], _, i, h => by simp at h
  | a :: b :: r, hc, 0, h => hc.1
  | a :: b :: r, hc, i + 1, h => by
    have := ch_at (M := b :: r) hc.2 i (by simpa using h)
    simpa using this
theorem cyc_at {l : List Int} {L : List Nat} (h : Cyc l L) (i : Nat) (hi : i < L.length) : ∃ (y : Nat) (hy : (i + 1) % L.length < L.length), L[(i + 1) % L.length] = y ∧ nth l (L[i] + 1) = (y : Int) ∧ nth l (y + 2) = (L[i] : Int) := by
  have hy : (i + 1) % L.length < L.length := Nat.mod_lt _ (by omega)
  cases L with
  | nil => simp at hi
  | cons c r =>
    have hc : Ch l (c :: r ++ [c]) := h
    have := ch_at hc i (by simp at hi ⊢; omega)
    have e1 : (c :: r ++ [c])[i]'(by simp at hi ⊢; omega) = (c :: r)[i] := by
      rw [List.getElem_append_left hi]
    refine ⟨_, hy, rfl, ?_⟩
    by_cases hl : i + 1 < (c :: r).length
    · have e2 : (c :: r ++ [c])[i + 1]'(by simp at hi ⊢; omega) = (c :: r)[(i + 1) % (c :: r).length] := by
        rw [List.getElem_append_left hl]
        congr 1
        exact (Nat.mod_eq_of_lt hl).symm
      rw [e1, e2] at this
      exact this
    · have hle : i + 1 = (c :: r).length := by omega
      have e2 : (c :: r ++ [c])[i + 1]'(by simp at hi ⊢; omega) = (c :: r)[(i + 1) % (c :: r).length] := by
        have hm : (i + 1) % (c :: r).length = 0 := by rw [hle]; exact Nat.mod_self _
        simp only [hm, List.getElem_cons_zero]
        rw [List.getElem_append_right (by omega)]
        simp
      rw [e1, e2] at this
      exact this
set_option maxRecDepth 100000 in
set_option maxHeartbeats 2000000 in
theorem linked_any (n wb cap : Nat) (l : List Int) (L : List Nat) (v : Value) (w : World) (hW : HoldsInts w wb cap l) (hn : l.length = n) (hv : RowV w v L) (hc : Cyc l L) (hi : CellsIn n L) (hn6 : n ≤ 1000000) (hL : L.length ≤ 100000) :
    Calls Try.prog 26 #[.slice (some ⟨wb, 0, none⟩) n cap, v] w fun e w' => e = .returned (.bool true) ∧ Fr Nil w w' := by
  obtain ⟨a0, k0, rfl⟩ := hv.shape
  obtain ⟨N, hN⟩ : ∃ N, L.length = N := ⟨_, rfl⟩
  rw [hN] at hv hL ⊢
  have H := Lib.hid (And.intro hW (And.intro hn (And.intro hv (And.intro hc (And.intro hi hN)))))
  have hwl := hW.lt
  clear hW hn hv hc hi hN
  go_enter Try.func26, Try.ntmps26
  go_wp2_with fail
  go_loopg [5] N (fun g iv wr => ∃ k : Nat, g = N - k ∧ k ≤ N ∧ iv = .int .i64 k ∧ Fr Nil w wr)
  case atStart => exact ⟨0, rfl, by omega, rfl, Fr.refl _ _⟩
  case round =>
    obtain ⟨k, rfl, hk, rfl, hw⟩ := hrel
    by_cases hlt : k < N
    · have hkL : k < L.length := by rw [H.out.2.2.2.2.2]; exact hlt
      obtain ⟨y, hy, ey, c1, c2⟩ := cyc_at H.out.2.2.2.1 k hkL
      obtain ⟨j, hj⟩ : ∃ j, (k + 1) % N = j := ⟨_, rfl⟩
      have hjN : j < N := by rw [← hj]; exact Nat.mod_lt _ (by omega)
      obtain ⟨x, ex⟩ : ∃ x, L[k] = x := ⟨_, rfl⟩
      have mx := H.out.2.2.2.2.1.le x (by rw [← ex]; exact List.getElem_mem hkL)
      have my := H.out.2.2.2.2.1.le y (by rw [← ey]; exact List.getElem_mem hy)
      obtain ⟨g1, rfl, p0⟩ := (H.out.2.2.1.fr hw).get k hkL
      obtain ⟨g2, eg, p1⟩ := (H.out.2.2.1.fr hw).get ((k + 1) % L.length) hy
      cases eg
      rw [ey] at p1
      rw [ex] at p0 c1 c2
      rw [H.out.2.2.2.2.2, hj] at p1
      have q0 := hw.cell (H.out.1.cell (k := x + 1) (by rw [H.out.2.1]; omega)) (by simp [Nil])
      have q1 := hw.cell (H.out.1.cell (k := y + 2) (by rw [H.out.2.1]; omega)) (by simp [Nil])
      rw [c1] at q0
      rw [c2] at q1
      have lt1 : g1 < wr.heap.size := World.block_lt_of_cell? wr _ p0
      have lt2 : wb < wr.heap.size := World.block_lt_of_cell? wr _ q0
      have a1 : ((k : Int) + 1).tmod (N : Int) = (j : Int) := by
        rw [Int.tmod_eq_emod_of_nonneg (by omega), ← hj]
        first
          | (simp; done)
          | (push_cast; rfl)
          | exact (Int.natCast_emod (k + 1) N).symm
      have i0 : (0 : Int) ≤ (k : Int) := by omega
      have i1 : (k : Int) < (N : Int) := by omega
      have i2 : (0 : Int) ≤ (j : Int) := by omega
      have i3 : (j : Int) < (N : Int) := by omega
      have d0 : ¬ (x : Int) < 0 := by omega
      have d1 : ¬ (n : Int) - 3 < (x : Int) := by omega
      have d2 : ¬ (y : Int) < 0 := by omega
      have d3 : ¬ (n : Int) - 3 < (y : Int) := by omega
      have e0 := decide_eq_false d0
      have e1 := decide_eq_false d1
      have e2 := decide_eq_false d2
      have e3 := decide_eq_false d3
      have d8 : ((y : Int) + 2).toNat = y + 2 := by omega
      have d9 : ((x : Int) + 1).toNat = x + 1 := by omega
      have d4 : (0 : Int) ≤ (x : Int) + 1 := by omega
      have d5 : (x : Int) + 1 < (n : Int) := by omega
      have d6 : (0 : Int) ≤ (y : Int) + 2 := by omega
      have d7 : (y : Int) + 2 < (n : Int) := by omega
      have w1 : IntKind.i64.wrap ((x : Int) + 1) = (x : Int) + 1 := by rw [IntKind.wrap_i64]; omega
      have w2 : IntKind.i64.wrap ((y : Int) + 2) = (y : Int) + 2 := by rw [IntKind.wrap_i64]; omega
      have w3 : IntKind.i64.wrap ((n : Int) - 3) = (n : Int) - 3 := by rw [IntKind.wrap_i64]; omega
      have w4 : IntKind.i64.wrap (j : Int) = (j : Int) := by rw [IntKind.wrap_i64]; omega
      have z1 : ((N : Int) == 0) = false := by simp; omega
      have z2 : ¬ (N : Int) = 0 := by omega
      have z3 : ¬ N = 0 := by omega
      clear c1 c2 ex ey hj mx my hy
      go_wp2
      go_quiet (fail)
      go_wp2
      go_roundg (N - (k + 1))
      case rel => exact ⟨k + 1, rfl, by omega, by go_num, by (repeat (first | (with_reducible exact Fr.refl _ _) | (with_reducible assumption) | (with_reducible exact Fr.of_nil (by assumption)) | (with_reducible refine Fr.drew ?_) | (with_reducible refine Fr.drewN ?_ _) | (with_reducible refine Fr.alloc ?_ _) | (with_reducible refine Fr.set ?_ _ _ (by first | (intros; omega) | (simp; done) | (simp; omega))) | (with_reducible refine Fr.via ?_ (by assumption)) | (with_reducible refine Fr.comp ?_ (by assumption))))⟩
      case measure => omega
    · obtain rfl : k = N := by omega
      have i1 : ¬ ((k : Int) < (k : Int)) := by omega
      go_wp2
      go_ret
      exact ⟨rfl, by (repeat (first | (with_reducible exact Fr.refl _ _) | (with_reducible assumption) | (with_reducible exact Fr.of_nil (by assumption)) | (with_reducible refine Fr.drew ?_) | (with_reducible refine Fr.drewN ?_ _) | (with_reducible refine Fr.alloc ?_ _) | (with_reducible refine Fr.set ?_ _ _ (by first | (intros; omega) | (simp; done) | (simp; omega))) | (with_reducible refine Fr.via ?_ (by assumption)) | (with_reducible refine Fr.comp ?_ (by assumption))))⟩
end Go.Proofs.Ytlpdlhmdhlcdlaa
