/-
  The document's ring (layer 5): Has, right, counts. Conditions: short rows, small cells.
-/
import Derived.Test.YtlpdlhmdhlcdlaaRef5c
namespace Go.Proofs.Ytlpdlhmdhlcdlaa
set_option linter.unusedSimpArgs false
set_option linter.unusedVariables false
open Go.RowKit Go.Shelf

/-- Does a cell share a word with one of a row? -/
def touch (c : Nat) (L : List Nat) : Bool := L.any fun x => decide (x < c + 3 ∧ c < x + 3)
theorem touch_no {c : Nat} {L : List Nat} (h : touch c L = false) : ∀ x ∈ L, c + 3 ≤ x ∨ x + 3 ≤ c := by
  intro x hx
  have := List.any_eq_false.1 h x hx
  simp at this
  omega
theorem touch_at {c : Nat} {L : List Nat} {k : Nat} (hk : k < L.length) (h : L[k] < c + 3 ∧ c < L[k] + 3) : touch c L = true :=
  List.any_eq_true.2 ⟨L[k], List.getElem_mem hk, by simp; exact h⟩
theorem touch_all {c : Nat} {L : List Nat} (h : ∀ k (hk : k < L.length), ¬ (L[k] < c + 3 ∧ c < L[k] + 3)) : touch c L = false :=
  List.any_eq_false.2 fun x hx => by
    obtain ⟨k, hk, rfl⟩ := List.getElem_of_mem hx
    simpa using h k hk
theorem RowV.shape {w : World} {v : Value} {L : List Nat} (h : RowV w v L) : ∃ a cap, v = .slice a L.length cap := by
  obtain ⟨a, cap, e, _⟩ := h
  exact ⟨a, cap, e⟩
theorem RowV.get {w : World} {a : Option Addr} {n cap : Nat} {L : List Nat} (h : RowV w (.slice a n cap) L) (i : Nat) (hi : i < L.length) : ∃ g, a = some ⟨g, 0, none⟩ ∧ w.cell? ⟨g, i, none⟩ = some (.int .i64 ((L[i] : Nat) : Int)) := by
  obtain ⟨a1, c1, e, hc⟩ := h
  injection e with e1 e2 e3
  subst e1
  exact hc i hi
set_option maxRecDepth 100000 in
theorem has_any {X : Nat → Prop} (sb m c : Nat) (S : Seg4) (w : World) (h : RefR w X sb m S) (hl : S.all.length ≤ 100000) (hx : ∀ x ∈ S.all, x ≤ 1000000) (hc : c ≤ 1000000) :
    Calls Try.prog 40 #[.pointer (some ⟨sb, 0, none⟩), .int .i64 (c : Int)] w fun e w' => e = .returned (.bool (touch c S.all)) ∧ Fr Nil w w' := by
  have HA := Lib.hid (all_any sb m S w h hl)
  obtain ⟨L, hL⟩ : ∃ L, S.all = L := ⟨_, rfl⟩
  rw [hL] at HA hl hx ⊢
  have HX := Lib.hid hx
  have wc3 : IntKind.i64.wrap ((c : Int) + 3) = (c : Int) + 3 := by rw [IntKind.wrap_i64]; omega
  clear h hx
  go_enter Try.func40, Try.ntmps40
  go_wp2_with fail
  refine HA.out.mono ?_
  rintro e w1 ⟨v', rfl, hr, f1⟩
  have hv := hr.toV
  obtain ⟨a0, cap, rfl⟩ := hv.shape
  obtain ⟨N, hN⟩ : ∃ N, L.length = N := ⟨_, rfl⟩
  rw [hN] at hl hv ⊢
  have HV := Lib.hid (And.intro hv hN)
  clear hr hv hN
  go_wp2_with fail
  go_loopg [6] N (fun g iv wr => ∃ k : Nat, g = N - k ∧ k ≤ N ∧ iv = .int .i64 k ∧ Hid (∀ j (hj : j < L.length), j < k → ¬ (L[j] < c + 3 ∧ c < L[j] + 3)) ∧ Fr Nil w1 wr)
  case atStart => exact ⟨0, rfl, by omega, rfl, Lib.hid (fun j _ q => absurd q (by omega)), Fr.refl _ _⟩
  case round =>
    obtain ⟨k, rfl, hk, rfl, HT, hw⟩ := hrel
    by_cases hlt : k < N
    · have hkL : k < L.length := by rw [HV.out.2]; exact hlt
      obtain ⟨g1, rfl, p0⟩ := (HV.out.1.fr hw).get k hkL
      have lt1 : g1 < wr.heap.size := World.block_lt_of_cell? wr _ p0
      obtain ⟨x, ex⟩ : ∃ x, L[k] = x := ⟨_, rfl⟩
      have hx1 : x ≤ 1000000 := by rw [← ex]; exact HX.out _ (List.getElem_mem hkL)
      rw [ex] at p0
      have i0 : (0 : Int) ≤ (k : Int) := by omega
      have i1 : (k : Int) < (N : Int) := by omega
      have wx3 : IntKind.i64.wrap ((x : Int) + 3) = (x : Int) + 3 := by rw [IntKind.wrap_i64]; omega
      have HE := Lib.hid ex
      clear ex
      by_cases c1 : x < c + 3
      · have d1 : (x : Int) < (c : Int) + 3 := by omega
        by_cases c2 : c < x + 3
        · have d2 : (c : Int) < (x : Int) + 3 := by omega
          have HF := Lib.hid (touch_at hkL (by rw [HE.out]; exact ⟨c1, c2⟩))
          go_wp2
          go_ret
          exact ⟨by rw [HF.out]; rfl, by (repeat (first | (with_reducible exact Fr.refl _ _) | (with_reducible assumption) | (with_reducible exact Fr.of_nil (by assumption)) | (with_reducible refine Fr.drew ?_) | (with_reducible refine Fr.drewN ?_ _) | (with_reducible refine Fr.alloc ?_ _) | (with_reducible refine Fr.set ?_ _ _ (by first | (intros; omega) | (simp; done) | (simp; omega))) | (with_reducible refine Fr.via ?_ (by assumption)) | (with_reducible refine Fr.comp ?_ (by assumption))))⟩
        · have d2 : ¬ (c : Int) < (x : Int) + 3 := by omega
          go_wp2
          go_roundg (N - (k + 1))
          case rel => exact ⟨k + 1, rfl, by omega, by go_num, Lib.hid (fun j hj q => by
            rcases Nat.lt_or_ge j k with q' | q'
            · exact HT.out j hj q'
            · obtain rfl : j = k := by omega
              rw [HE.out]
              omega), by (repeat (first | (with_reducible exact Fr.refl _ _) | (with_reducible assumption) | (with_reducible exact Fr.of_nil (by assumption)) | (with_reducible refine Fr.drew ?_) | (with_reducible refine Fr.drewN ?_ _) | (with_reducible refine Fr.alloc ?_ _) | (with_reducible refine Fr.set ?_ _ _ (by first | (intros; omega) | (simp; done) | (simp; omega))) | (with_reducible refine Fr.via ?_ (by assumption)) | (with_reducible refine Fr.comp ?_ (by assumption))))⟩
          case measure => omega
      · have d1 : ¬ (x : Int) < (c : Int) + 3 := by omega
        go_wp2
        go_roundg (N - (k + 1))
        case rel => exact ⟨k + 1, rfl, by omega, by go_num, Lib.hid (fun j hj q => by
          rcases Nat.lt_or_ge j k with q' | q'
          · exact HT.out j hj q'
          · obtain rfl : j = k := by omega
            rw [HE.out]
            omega), by (repeat (first | (with_reducible exact Fr.refl _ _) | (with_reducible assumption) | (with_reducible exact Fr.of_nil (by assumption)) | (with_reducible refine Fr.drew ?_) | (with_reducible refine Fr.drewN ?_ _) | (with_reducible refine Fr.alloc ?_ _) | (with_reducible refine Fr.set ?_ _ _ (by first | (intros; omega) | (simp; done) | (simp; omega))) | (with_reducible refine Fr.via ?_ (by assumption)) | (with_reducible refine Fr.comp ?_ (by assumption))))⟩
        case measure => omega
    · obtain rfl : k = N := by omega
      have i1 : ¬ ((k : Int) < (k : Int)) := by omega
      have HF := Lib.hid (touch_all (c := c) (L := L) (fun j hj => HT.out j hj (by have := HV.out.2; omega)))
      go_wp2
      go_ret
      exact ⟨by rw [HF.out]; rfl, by (repeat (first | (with_reducible exact Fr.refl _ _) | (with_reducible assumption) | (with_reducible exact Fr.of_nil (by assumption)) | (with_reducible refine Fr.drew ?_) | (with_reducible refine Fr.drewN ?_ _) | (with_reducible refine Fr.alloc ?_ _) | (with_reducible refine Fr.set ?_ _ _ (by first | (intros; omega) | (simp; done) | (simp; omega))) | (with_reducible refine Fr.via ?_ (by assumption)) | (with_reducible refine Fr.comp ?_ (by assumption))))⟩
theorem counts_any {X : Nat → Prop} (S : Seg4) (v0 v1 v2 v3 : Value) (w : World) (h0 : RowB X w v0 S.W) (h1 : RowB X w v1 S.F) (h2 : RowB X w v2 S.G) (h3 : RowB X w v3 S.B) :
    Calls Try.prog 25 #[.agg #[v0, v1, v2, v3]] w fun e w' => e = .returned (.agg #[.int .i64 (S.W.length : Int), .int .i64 (S.F.length : Int), .int .i64 (S.G.length : Int), .int .i64 (S.B.length : Int)]) ∧ Fr Nil w w' := by
  obtain ⟨x0, k0, rfl, _⟩ := h0.fit
  obtain ⟨x1, k1, rfl, _⟩ := h1.fit
  obtain ⟨x2, k2, rfl, _⟩ := h2.fit
  obtain ⟨x3, k3, rfl, _⟩ := h3.fit
  clear h0 h1 h2 h3
  obtain ⟨n0, e0⟩ : ∃ n, S.W.length = n := ⟨_, rfl⟩
  obtain ⟨n1, e1⟩ : ∃ n, S.F.length = n := ⟨_, rfl⟩
  obtain ⟨n2, e2⟩ : ∃ n, S.G.length = n := ⟨_, rfl⟩
  obtain ⟨n3, e3⟩ : ∃ n, S.B.length = n := ⟨_, rfl⟩
  rw [e0, e1, e2, e3]
  clear e0 e1 e2 e3
  go_enter Try.func25, Try.ntmps25
  go_wp2
  refine bodyPost_ret (v := .agg #[.int .i64 (n0 : Int), .int .i64 (n1 : Int), .int .i64 (n2 : Int), .int .i64 (n3 : Int)]) (by simp [results, Try.results25, go_sem]) rfl ⟨rfl, by (repeat (first | (with_reducible exact Fr.refl _ _) | (with_reducible assumption) | (with_reducible exact Fr.of_nil (by assumption)) | (with_reducible refine Fr.drew ?_) | (with_reducible refine Fr.drewN ?_ _) | (with_reducible refine Fr.alloc ?_ _) | (with_reducible refine Fr.set ?_ _ _ (by first | (intros; omega) | (simp; done) | (simp; omega))) | (with_reducible refine Fr.via ?_ (by assumption)) | (with_reducible refine Fr.comp ?_ (by assumption))))⟩
def rightB (S : Seg4) (k n : Int) : Bool := !(decide (k = 0) && decide (0 ≤ n) && decide (n ≤ 100000) && touch n.toNat S.all)
theorem right_any {X : Nat → Prop} (sb m : Nat) (S : Seg4) (k n : Int) (w : World) (h : RefR w X sb m S) (hl : S.all.length ≤ 100000) (hx : ∀ x ∈ S.all, x ≤ 1000000) :
    Calls Try.prog 18 #[.pointer (some ⟨sb, 0, none⟩), .agg #[.int .i64 k, .int .i64 n]] w fun e w' => e = .returned (.bool (rightB S k n)) ∧ Fr Nil w w' := by
  have H := Lib.hid (And.intro h (And.intro hl hx))
  by_cases hk : k = 0
  · by_cases h1 : n < 0
    · have hR : rightB S k n = true := by simp [rightB]; omega
      rw [hR]
      have HR := Lib.hid hR
      subst hk
      have d1 := decide_eq_true h1
      clear h hl hx hR
      go_enter Try.func18, Try.ntmps18
      go_wp2
      go_ret
      exact ⟨rfl, by (repeat (first | (with_reducible exact Fr.refl _ _) | (with_reducible assumption) | (with_reducible exact Fr.of_nil (by assumption)) | (with_reducible refine Fr.drew ?_) | (with_reducible refine Fr.drewN ?_ _) | (with_reducible refine Fr.alloc ?_ _) | (with_reducible refine Fr.set ?_ _ _ (by first | (intros; omega) | (simp; done) | (simp; omega))) | (with_reducible refine Fr.via ?_ (by assumption)) | (with_reducible refine Fr.comp ?_ (by assumption))))⟩
    · by_cases h2 : 100000 < n
      · have hR : rightB S k n = true := by simp [rightB]; omega
        rw [hR]
        subst hk
        clear h hl hx hR
        go_enter Try.func18, Try.ntmps18
        go_wp2
        go_ret
        exact ⟨rfl, by (repeat (first | (with_reducible exact Fr.refl _ _) | (with_reducible assumption) | (with_reducible exact Fr.of_nil (by assumption)) | (with_reducible refine Fr.drew ?_) | (with_reducible refine Fr.drewN ?_ _) | (with_reducible refine Fr.alloc ?_ _) | (with_reducible refine Fr.set ?_ _ _ (by first | (intros; omega) | (simp; done) | (simp; omega))) | (with_reducible refine Fr.via ?_ (by assumption)) | (with_reducible refine Fr.comp ?_ (by assumption))))⟩
      · obtain ⟨c, rfl⟩ := Int.eq_ofNat_of_zero_le (by omega : 0 ≤ n)
        have hR : rightB S k (c : Int) = !touch c S.all := by
          have t1 : (0 : Int) ≤ (c : Int) := by omega
          have t2 : (c : Int) ≤ 100000 := by omega
          simp only [rightB, decide_eq_true hk, decide_eq_true t1, decide_eq_true t2, Int.toNat_natCast, Bool.true_and]
        rw [hR]
        subst hk
        clear h hl hx hR
        obtain ⟨b, hb⟩ : ∃ b, touch c S.all = b := ⟨_, rfl⟩
        have HB := Lib.hid hb
        rw [hb]
        clear hb
        go_enter Try.func18, Try.ntmps18
        go_wp2_with fail
        refine (has_any sb m c S _ (H.out.1.fr (by (repeat (first | (with_reducible exact Fr.refl _ _) | (with_reducible assumption) | (with_reducible exact Fr.of_nil (by assumption)) | (with_reducible refine Fr.drew ?_) | (with_reducible refine Fr.drewN ?_ _) | (with_reducible refine Fr.alloc ?_ _) | (with_reducible refine Fr.set ?_ _ _ (by first | (intros; omega) | (simp; done) | (simp; omega))) | (with_reducible refine Fr.via ?_ (by assumption)) | (with_reducible refine Fr.comp ?_ (by assumption)))))) H.out.2.1 H.out.2.2 (by omega)).mono ?_
        rw [HB.out]
        rintro e w1 ⟨rfl, f1⟩
        go_wp2
        go_ret
        exact ⟨rfl, by (repeat (first | (with_reducible exact Fr.refl _ _) | (with_reducible assumption) | (with_reducible exact Fr.of_nil (by assumption)) | (with_reducible refine Fr.drew ?_) | (with_reducible refine Fr.drewN ?_ _) | (with_reducible refine Fr.alloc ?_ _) | (with_reducible refine Fr.set ?_ _ _ (by first | (intros; omega) | (simp; done) | (simp; omega))) | (with_reducible refine Fr.via ?_ (by assumption)) | (with_reducible refine Fr.comp ?_ (by assumption))))⟩
  · have hR : rightB S k n = true := by simp [rightB]; omega
    rw [hR]
    have d1 : (k == 0) = false := by simp; exact hk
    clear h hl hx hR
    go_enter Try.func18, Try.ntmps18
    go_wp2
    go_ret
    exact ⟨rfl, by (repeat (first | (with_reducible exact Fr.refl _ _) | (with_reducible assumption) | (with_reducible exact Fr.of_nil (by assumption)) | (with_reducible refine Fr.drew ?_) | (with_reducible refine Fr.drewN ?_ _) | (with_reducible refine Fr.alloc ?_ _) | (with_reducible refine Fr.set ?_ _ _ (by first | (intros; omega) | (simp; done) | (simp; omega))) | (with_reducible refine Fr.via ?_ (by assumption)) | (with_reducible refine Fr.comp ?_ (by assumption))))⟩
end Go.Proofs.Ytlpdlhmdhlcdlaa
