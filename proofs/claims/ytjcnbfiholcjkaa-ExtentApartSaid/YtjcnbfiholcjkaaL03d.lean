/-
  The statement 'ExtentApart', walked. No conditions.
-/
import Derived.Test.YtjcnbfiholcjkaaRef3a
namespace Go.Proofs.Ytjcnbfiholcjkaa
set_option linter.unusedSimpArgs false
set_option linter.unusedVariables false
open Go.RowKit Go.Shelf

/-- What is free, and what was taken. -/
structure Apart (f p : Nat) (L G : List (Nat × Nat)) : Prop where
  has : ∀ q, hasL L q ↔ (f ≤ q ∧ q < f + p ∧ ¬ hasL G q)
  pw : G.Pairwise (fun x y => x.1 + x.2 ≤ y.1 ∨ y.1 + y.2 ≤ x.1)
  mem : ∀ x ∈ G, f ≤ x.1 ∧ 1 ≤ x.2 ∧ x.1 + x.2 ≤ f + p
theorem Apart.fresh (f p : Nat) : Apart f p (newL f p) [] := by
  refine ⟨fun q => ?_, List.Pairwise.nil, fun x hx => by cases hx⟩
  unfold newL
  split
  · next c => exact ⟨fun h => (hasL_nil q h).elim, fun h => by omega⟩
  · rw [hasL_cons]
    simp only []
    exact ⟨fun h => h.elim (fun h => ⟨h.1, h.2, hasL_nil q⟩) (fun h => (hasL_nil q h).elim), fun h => .inl ⟨h.1, h.2.1⟩⟩
theorem Apart.take {f p n a : Nat} {L G M : List (Nat × Nat)} (h : Apart f p L G) (hc : CanL f (f + p) L) (hn : 1 ≤ n) (ht : takeL n L = some (a, M)) :
    Apart f p M (G ++ [(a, n)]) ∧ (∀ x ∈ G, x.1 + x.2 ≤ a ∨ a + n ≤ x.1) ∧ f ≤ a ∧ a + n ≤ f + p := by
  obtain ⟨g1, g2, _, g4, g5, g6, _⟩ := takeL_can hn hc ht
  have key : ∀ x ∈ G, x.1 + x.2 ≤ a ∨ a + n ≤ x.1 := fun x hx => by
    rcases Nat.lt_or_ge a (x.1 + x.2) with c | c
    · rcases Nat.lt_or_ge x.1 (a + n) with d | d
      · have m := h.mem x hx
        have hq : ∃ q, a ≤ q ∧ q < a + n ∧ x.1 ≤ q ∧ q < x.1 + x.2 := by
          rcases Nat.le_total a x.1 with e | e
          · exact ⟨x.1, e, d, Nat.le_refl _, by omega⟩
          · exact ⟨a, Nat.le_refl _, by omega, e, c⟩
        obtain ⟨q, q1, q2, q3, q4⟩ := hq
        exact (((h.has q).1 (g6 q q1 q2)).2.2 ⟨x, hx, q3, q4⟩).elim
      · exact .inr d
    · exact .inl c
  refine ⟨⟨fun q => ?_, ?_, ?_⟩, key, g4, g5⟩
  · rw [g2, h.has, hasL_app, hasL_cons]
    constructor
    · rintro ⟨⟨a1, a2, a3⟩, a4⟩
      exact ⟨a1, a2, fun r => r.elim a3 (fun r => r.elim a4 (hasL_nil q))⟩
    · rintro ⟨a1, a2, a3⟩
      exact ⟨⟨a1, a2, fun r => a3 (.inl r)⟩, fun r => a3 (.inr (.inl r))⟩
  · rw [List.pairwise_append]
    exact ⟨h.pw, List.pairwise_singleton _ _, fun x hx y hy => by
      obtain rfl : y = (a, n) := by simpa using hy
      exact key x hx⟩
  · intro x hx
    rcases List.mem_append.1 hx with q | q
    · exact h.mem x q
    · obtain rfl : x = (a, n) := by simpa using q
      exact ⟨g4, hn, g5⟩
theorem Apart.give {f p : Nat} {x : Nat × Nat} {L R : List (Nat × Nat)} (h : Apart f p L (x :: R)) (hc : CanL f (f + p) L) : (∀ q, x.1 ≤ q → q < x.1 + x.2 → ¬ hasL L q) ∧ Apart f p (giveL x.1 x.2 L) R := by
  have m := h.mem x (List.mem_cons_self ..)
  have hno : ∀ q, x.1 ≤ q → q < x.1 + x.2 → ¬ hasL L q := fun q q1 q2 hq => ((h.has q).1 hq).2.2 ⟨x, List.mem_cons_self .., q1, q2⟩
  obtain ⟨_, g2, _⟩ := give_can hc m.2.1 m.1 m.2.2 hno
  have pw := List.pairwise_cons.1 h.pw
  refine ⟨hno, ⟨fun q => ?_, pw.2, fun y hy => h.mem y (List.mem_cons_of_mem _ hy)⟩⟩
  rw [g2, h.has, hasL_cons]
  constructor
  · rintro (⟨a1, a2, a3⟩ | ⟨a1, a2⟩)
    · exact ⟨a1, a2, fun r => a3 (.inr r)⟩
    · refine ⟨by omega, by omega, ?_⟩
      rintro ⟨y, hy, y1, y2⟩
      have := pw.1 y hy
      omega
  · rintro ⟨a1, a2, a3⟩
    by_cases c : x.1 ≤ q ∧ q < x.1 + x.2
    · exact .inr c
    · exact .inl ⟨a1, a2, fun r => r.elim c a3⟩
theorem hasL_rev (G : List (Nat × Nat)) (q : Nat) : hasL G.reverse q ↔ hasL G q := by
  unfold hasL
  simp
theorem Apart.rev {f p : Nat} {L G : List (Nat × Nat)} (h : Apart f p L G) : Apart f p L G.reverse := by
  refine ⟨fun q => by rw [hasL_rev]; exact h.has q, ?_, fun x hx => h.mem x (by simpa using hx)⟩
  rw [List.pairwise_reverse]
  exact h.pw.imp (fun r => r.symm)
theorem Apart.done {f p : Nat} {L : List (Nat × Nat)} (h : Apart f p L []) (hc : CanL f (f + p) L) : L = newL f p :=
  can_ext hc (newL_can f p) (fun q => (h.has q).trans ((Apart.fresh f p).has q).symm)
/-- The order in which it is given back. -/
def ordL (t : Bool) (G : List (Nat × Nat)) : List (Nat × Nat) := if t then G.reverse else G
theorem ordL_len (t : Bool) (G : List (Nat × Nat)) : (ordL t G).length = G.length := by cases t <;> simp [ordL]
theorem Apart.ord {f p : Nat} {L G : List (Nat × Nat)} (t : Bool) (h : Apart f p L G) : Apart f p L (ordL t G) := by
  cases t
  · exact h
  · exact h.rev
/-- The guard's test. -/
def OutD (f p : Int) (m : Nat) : Prop := f < 0 ∨ 65536 < f ∨ p < 0 ∨ 300 < p ∨ 60 < m
set_option maxRecDepth 100000 in
theorem apart_out (f p : Int) (v : Value) (zs : List Int) (t : Bool) (w : World) (hv : RowInts w v zs) (ho : OutD f p zs.length) :
    Calls Try.prog 4 #[.int .i64 f, .int .i64 p, v, .bool t] w fun e w' => e = .returned (.bool true) ∧ Fr Nil w w' := by
  obtain ⟨a, cap, rfl, hrow⟩ := hv
  clear hrow
  unfold OutD at ho
  by_cases c1 : f < 0
  · have d1 := decide_eq_true c1
    clear ho
    go_enter Try.func4, Try.ntmps4
    go_wp2_with fail
    refine (awake_any _).mono ?_
    rintro e w0 ⟨rfl, f0⟩
    go_wp2
    go_ret
    exact ⟨rfl, f0⟩
  · have d1 := decide_eq_false c1
    by_cases c2 : 65536 < f
    · have d2 := decide_eq_true c2
      clear ho
      go_enter Try.func4, Try.ntmps4
      go_wp2_with fail
      refine (awake_any _).mono ?_
      rintro e w0 ⟨rfl, f0⟩
      go_wp2
      go_ret
      exact ⟨rfl, f0⟩
    · have d2 := decide_eq_false c2
      by_cases c3 : p < 0
      · have d3 := decide_eq_true c3
        clear ho
        go_enter Try.func4, Try.ntmps4
        go_wp2_with fail
        refine (awake_any _).mono ?_
        rintro e w0 ⟨rfl, f0⟩
        go_wp2
        go_ret
        exact ⟨rfl, f0⟩
      · have d3 := decide_eq_false c3
        by_cases c4 : 300 < p
        · have d4 := decide_eq_true c4
          clear ho
          go_enter Try.func4, Try.ntmps4
          go_wp2_with fail
          refine (awake_any _).mono ?_
          rintro e w0 ⟨rfl, f0⟩
          go_wp2
          go_ret
          exact ⟨rfl, f0⟩
        · have d4 := decide_eq_false c4
          have c5 : (60 : Int) < (zs.length : Int) := by omega
          have d5 := decide_eq_true c5
          clear ho
          go_enter Try.func4, Try.ntmps4
          go_wp2_with fail
          refine (awake_any _).mono ?_
          rintro e w0 ⟨rfl, f0⟩
          go_wp2
          go_ret
          exact ⟨rfl, f0⟩
set_option maxRecDepth 100000 in
set_option maxHeartbeats 8000000 in
theorem apart_in (f p : Nat) (hf : f ≤ 65536) (hp : p ≤ 300) (v : Value) (zs : List Int) (t : Bool) (w : World) (hv : RowInts w v zs) (hn : zs.length ≤ 60) :
    Calls Try.prog 4 #[.int .i64 (f : Int), .int .i64 (p : Int), v, .bool t] w fun e w' => e = .returned (.bool true) ∧ Fr Nil w w' := by
  obtain ⟨i0, hi, hz0, hz1, hz2⟩ := info_parts infoPair
  obtain ⟨a, cap, rfl, hrow⟩ := hv
  have n1 : ¬ (f : Int) < 0 := by omega
  have n2 : ¬ (65536 : Int) < (f : Int) := by omega
  have n3 : ¬ (p : Int) < 0 := by omega
  have n4 : ¬ (300 : Int) < (p : Int) := by omega
  have n5 : ¬ (60 : Int) < (zs.length : Int) := by omega
  have d1 := decide_eq_false n1
  have d2 := decide_eq_false n2
  have d3 := decide_eq_false n3
  have d4 := decide_eq_false n4
  have d5 := decide_eq_false n5
  have HX := Lib.hid hrow
  clear hrow
  go_enter Try.func4, Try.ntmps4
  go_wp2_with fail
  refine (awake_any _).mono ?_
  rintro e w0 ⟨rfl, f0⟩
  go_wp2_with fail
  refine (new_in f p (by omega) (by omega) _).mono ?_
  rintro e w1 ⟨v1, rfl, h1, f1⟩
  obtain ⟨br, hbr⟩ : ∃ br, w0.heap.size = br := ⟨_, rfl⟩
  rw [hbr] at h1 ⊢
  have hbw : w.heap.size ≤ br := by rw [← hbr]; exact f0.size
  have hf1 : Fr Nil w w1 := f0.comp f1
  clear hbr f0 f1
  have hts1 : ∀ k, TS br v1 k → k < w1.heap.size := fun k q => by
    rcases q with q | q
    · have := h1.blk.lt; omega
    · exact (h1.pairs.own q).2
  have H1 := Lib.hid (And.intro h1 (And.intro hf1 hts1))
  clear h1 hf1 hts1
  go_wp2_with fail
  go_loopg [11, 12, 13] zs.length (fun g gv sv iv wr => ∃ (j : Nat) (v' : Value) (L G : List (Nat × Nat)), g = zs.length - j ∧ j ≤ zs.length ∧ iv = .int .i64 j ∧ sv = .int .i64 (sumL G : Nat) ∧ PairsAt w1.heap.size wr gv G ∧ RoomAt wr br f p v' L ∧ v'.ownBlock = v1.ownBlock ∧ Hid (Apart f p L G ∧ sumL L + sumL G = p ∧ G.length ≤ j) ∧ Fr Nil w wr ∧ w1.heap.size ≤ wr.heap.size)
  case atStart => exact ⟨0, _, _, [], rfl, by omega, rfl, rfl, World.ownsRow_nil _ _ _ _, H1.out.1, rfl, Lib.hid ⟨Apart.fresh f p, by unfold newL; split <;> simp [sumL] <;> omega, Nat.le_refl _⟩, H1.out.2.1, Nat.le_refl _⟩
  case round =>
    obtain ⟨j, v', L, G, rfl, hj, rfl, rfl, hG, hR, hv', HI, hw, hsz⟩ := hrel
    have hbl := hR.blk.lt
    have hTS : Hid (∀ k, TS br v' k → k < w1.heap.size) := fun k q => H1.out.2.2 k (by
      rcases q with q | q
      · exact .inl q
      · exact .inr (by rw [← hv']; exact q))
    by_cases hlt : j < zs.length
    · obtain ⟨b, off, rfl, hcell⟩ := HX.out (by omega)
      have r0 := hw.cell (hcell j hlt) (by simp [Nil])
      obtain ⟨n, hnn⟩ : ∃ n, nth zs j = n := ⟨_, rfl⟩
      rw [hnn] at r0
      have b1 : (0 : Int) ≤ (j : Int) := by omega
      have b2 : (j : Int) < (zs.length : Int) := by omega
      have hbl2 : b < wr.heap.size := World.block_lt_of_cell? _ _ r0
      have hb0 : b < w.heap.size := World.block_lt_of_cell? _ _ (hcell j hlt)
      have HR := Lib.hid (And.intro hR (And.intro hG (And.intro hw (And.intro hv' r0))))
      clear hcell hnn hR hG hw hv'
      go_wp2_with fail
      by_cases hn1 : n < 1
      · refine (take_bad br _ n hn1).mono ?_
        rintro e w3 ⟨rfl, f3⟩
        have hs3 := f3.size
        go_wp2
        go_roundg (zs.length - (j + 1))
        case rel => exact ⟨j + 1, v', L, G, rfl, by omega, by go_num, rfl, HR.out.2.1.fr (by (repeat (first | (with_reducible exact Fr.refl _ _) | (with_reducible assumption) | (with_reducible exact Fr.of_nil (by assumption)) | (with_reducible refine Fr.drew ?_) | (with_reducible refine Fr.drewN ?_ _) | (with_reducible refine Fr.alloc ?_ _) | (with_reducible refine Fr.set ?_ _ _ (by first | (intros; omega) | (simp; done) | (simp; omega))) | (with_reducible refine Fr.via ?_ (by assumption)) | (with_reducible refine Fr.comp ?_ (by assumption))))), HR.out.1.fr (S := Nil) (by (repeat (first | (with_reducible exact Fr.refl _ _) | (with_reducible assumption) | (with_reducible exact Fr.of_nil (by assumption)) | (with_reducible refine Fr.drew ?_) | (with_reducible refine Fr.drewN ?_ _) | (with_reducible refine Fr.alloc ?_ _) | (with_reducible refine Fr.set ?_ _ _ (by first | (intros; omega) | (simp; done) | (simp; omega))) | (with_reducible refine Fr.via ?_ (by assumption)) | (with_reducible refine Fr.comp ?_ (by assumption))))) (fun _ _ q => q), HR.out.2.2.2.1, Lib.hid ⟨HI.out.1, HI.out.2.1, by have := HI.out.2.2; omega⟩, HR.out.2.2.1.comp (by (repeat (first | (with_reducible exact Fr.refl _ _) | (with_reducible assumption) | (with_reducible exact Fr.of_nil (by assumption)) | (with_reducible refine Fr.drew ?_) | (with_reducible refine Fr.drewN ?_ _) | (with_reducible refine Fr.alloc ?_ _) | (with_reducible refine Fr.set ?_ _ _ (by first | (intros; omega) | (simp; done) | (simp; omega))) | (with_reducible refine Fr.via ?_ (by assumption)) | (with_reducible refine Fr.comp ?_ (by assumption))))), by omega⟩
        case measure => omega
      · obtain ⟨m, rfl⟩ := Int.eq_ofNat_of_zero_le (by omega : 0 ≤ n)
        have hm1 : 1 ≤ m := by omega
        cases ht : takeL m L with
        | none =>
          refine (take_full br f p v' L _ (HR.out.1.fr (S := Nil) (by (repeat (first | (with_reducible exact Fr.refl _ _) | (with_reducible assumption) | (with_reducible exact Fr.of_nil (by assumption)) | (with_reducible refine Fr.drew ?_) | (with_reducible refine Fr.drewN ?_ _) | (with_reducible refine Fr.alloc ?_ _) | (with_reducible refine Fr.set ?_ _ _ (by first | (intros; omega) | (simp; done) | (simp; omega))) | (with_reducible refine Fr.via ?_ (by assumption)) | (with_reducible refine Fr.comp ?_ (by assumption))))) (fun _ _ q => q)) m hm1 ht).mono ?_
          rintro e w3 ⟨rfl, f3⟩
          have hs3 := f3.size
          clear ht
          go_wp2
          go_roundg (zs.length - (j + 1))
          case rel => exact ⟨j + 1, v', L, G, rfl, by omega, by go_num, rfl, HR.out.2.1.fr (by (repeat (first | (with_reducible exact Fr.refl _ _) | (with_reducible assumption) | (with_reducible exact Fr.of_nil (by assumption)) | (with_reducible refine Fr.drew ?_) | (with_reducible refine Fr.drewN ?_ _) | (with_reducible refine Fr.alloc ?_ _) | (with_reducible refine Fr.set ?_ _ _ (by first | (intros; omega) | (simp; done) | (simp; omega))) | (with_reducible refine Fr.via ?_ (by assumption)) | (with_reducible refine Fr.comp ?_ (by assumption))))), HR.out.1.fr (S := Nil) (by (repeat (first | (with_reducible exact Fr.refl _ _) | (with_reducible assumption) | (with_reducible exact Fr.of_nil (by assumption)) | (with_reducible refine Fr.drew ?_) | (with_reducible refine Fr.drewN ?_ _) | (with_reducible refine Fr.alloc ?_ _) | (with_reducible refine Fr.set ?_ _ _ (by first | (intros; omega) | (simp; done) | (simp; omega))) | (with_reducible refine Fr.via ?_ (by assumption)) | (with_reducible refine Fr.comp ?_ (by assumption))))) (fun _ _ q => q), HR.out.2.2.2.1, Lib.hid ⟨HI.out.1, HI.out.2.1, by have := HI.out.2.2; omega⟩, HR.out.2.2.1.comp (by (repeat (first | (with_reducible exact Fr.refl _ _) | (with_reducible assumption) | (with_reducible exact Fr.of_nil (by assumption)) | (with_reducible refine Fr.drew ?_) | (with_reducible refine Fr.drewN ?_ _) | (with_reducible refine Fr.alloc ?_ _) | (with_reducible refine Fr.set ?_ _ _ (by first | (intros; omega) | (simp; done) | (simp; omega))) | (with_reducible refine Fr.via ?_ (by assumption)) | (with_reducible refine Fr.comp ?_ (by assumption))))), by omega⟩
          case measure => omega
        | some r =>
          obtain ⟨at_, M⟩ := r
          refine (take_some br f p v' L _ (HR.out.1.fr (S := Nil) (by (repeat (first | (with_reducible exact Fr.refl _ _) | (with_reducible assumption) | (with_reducible exact Fr.of_nil (by assumption)) | (with_reducible refine Fr.drew ?_) | (with_reducible refine Fr.drewN ?_ _) | (with_reducible refine Fr.alloc ?_ _) | (with_reducible refine Fr.set ?_ _ _ (by first | (intros; omega) | (simp; done) | (simp; omega))) | (with_reducible refine Fr.via ?_ (by assumption)) | (with_reducible refine Fr.comp ?_ (by assumption))))) (fun _ _ q => q)) m hm1 at_ M ht).mono ?_
          rintro e w3 ⟨v3, rfl, h3, o3, f3⟩
          obtain ⟨hA, hapart, ha1, ha2⟩ := HI.out.1.take HR.out.1.can hm1 ht
          obtain ⟨_, _, hsum, _, _, _, _⟩ := takeL_can hm1 HR.out.1.can ht
          have f3' : Fr (TS br v') wr w3 := by first | exact f3 | exact (Fr.refl _ _).comp f3
          have hs3 : wr.heap.size ≤ w3.heap.size := f3'.size
          have q0 := f3'.cell HR.out.2.2.2.2 (fun q => by
            have := HR.out.1.ge _ q
            simp at this
            omega)
          have hbl3 : b < w3.heap.size := by omega
          have hG3 := kept_fr HR.out.2.1 f3' (fun k hk q => by have := (HR.out.2.1.own hk).1; have := hTS.out k q; omega)
          have hw3 : Fr Nil w w3 := HR.out.2.2.1.trans f3' (fun k hk q => by have := HR.out.1.ge k q; omega)
          obtain ⟨ga, gc, rfl⟩ := HR.out.2.1.shape
          have hGl := HI.out.2.2
          have hsG := HI.out.2.1
          have wo : IntKind.i64.wrap ((at_ : Int) + (m : Int)) = (at_ : Int) + (m : Int) := by rw [IntKind.wrap_i64]; omega
          have w1' : IntKind.i64.wrap ((at_ : Int) - (f : Int)) = (at_ : Int) - (f : Int) := by rw [IntKind.wrap_i64]; omega
          have w2' : IntKind.i64.wrap ((p : Int) - (m : Int)) = (p : Int) - (m : Int) := by rw [IntKind.wrap_i64]; omega
          have t1 : ¬ (at_ : Int) < (f : Int) := by omega
          have t2 : ¬ (p : Int) - (m : Int) < (at_ : Int) - (f : Int) := by omega
          have u1 := decide_eq_false t1
          have u2 := decide_eq_false t2
          have u5 : decide (at_ < f) = false := decide_eq_false (by omega)
          have H3 := Lib.hid (And.intro h3 (And.intro hG3 (And.intro hw3 (And.intro (o3.trans HR.out.2.2.2.1) (And.intro hA (And.intro hapart hsum))))))
          obtain ⟨N, hN⟩ : ∃ N, G.length = N := ⟨_, rfl⟩
          rw [hN] at hGl ⊢
          have HN := Lib.hid hN
          clear f3 f3' h3 hG3 hw3 o3 hA hapart hsum ht hN r0
          go_wp2_with fail
          go_loopg [16] N (fun g iv wq => ∃ k : Nat, g = N - k ∧ k ≤ N ∧ iv = .int .i64 k ∧ Fr Nil w3 wq)
          case atStart => exact ⟨0, rfl, by omega, rfl, Fr.refl _ _⟩
          case round =>
            obtain ⟨k, rfl, hk, rfl, hq⟩ := hrel
            have q0' := hq.cell q0 (fun q => q)
            have hbl4 := hq.lt hbl3
            by_cases hkl : k < N
            · have hkl' : k < G.length := by rw [HN.out]; exact hkl
              obtain ⟨g5, d5', e5⟩ := H3.out.2.1.form (by omega)
              have e5' : ga = some ⟨g5, 0, none⟩ := by injection e5
              subst e5'
              obtain ⟨p0, p1⟩ := pair_cell (H3.out.2.1.fr hq) rfl k hkl'
              have i0' : (0 : Int) ≤ (k : Int) := by omega
              have i1 : (k : Int) < (N : Int) := by omega
              have lt5 : g5 < wr.heap.size := World.block_lt_of_cell? wr _ p0
              have hap := H3.out.2.2.2.2.2.1 _ (List.getElem_mem hkl')
              have hme := H3.out.2.2.2.2.1.mem _ (List.mem_append_left _ (List.getElem_mem hkl'))
              obtain ⟨x1, ex1⟩ : ∃ x1, G[k].1 = x1 := ⟨_, rfl⟩
              obtain ⟨x2, ex2⟩ : ∃ x2, G[k].2 = x2 := ⟨_, rfl⟩
              rw [ex1, ex2] at hap hme
              rw [ex1] at p0
              rw [ex2] at p1
              have wx : IntKind.i64.wrap ((x1 : Int) + (x2 : Int)) = (x1 : Int) + (x2 : Int) := by rw [IntKind.wrap_i64]; omega
              clear ex1 ex2 e5
              by_cases c : x1 < at_ + m
              · have s1 : (x1 : Int) < (at_ : Int) + (m : Int) := by omega
                have s2 : ¬ (at_ : Int) < (x1 : Int) + (x2 : Int) := by omega
                have s3 := decide_eq_false s2
                clear hap hme
                go_wp2
                go_quiet (fail)
                go_wp2
                go_roundg (N - (k + 1))
                case rel => exact ⟨k + 1, rfl, by omega, by go_num, by (repeat (first | (with_reducible exact Fr.refl _ _) | (with_reducible assumption) | (with_reducible exact Fr.of_nil (by assumption)) | (with_reducible refine Fr.drew ?_) | (with_reducible refine Fr.drewN ?_ _) | (with_reducible refine Fr.alloc ?_ _) | (with_reducible refine Fr.set ?_ _ _ (by first | (intros; omega) | (simp; done) | (simp; omega))) | (with_reducible refine Fr.via ?_ (by assumption)) | (with_reducible refine Fr.comp ?_ (by assumption))))⟩
                case measure => omega
              · have s1 : ¬ (x1 : Int) < (at_ : Int) + (m : Int) := by omega
                have s3 := decide_eq_false s1
                clear hap hme
                go_wp2
                go_quiet (fail)
                go_wp2
                go_roundg (N - (k + 1))
                case rel => exact ⟨k + 1, rfl, by omega, by go_num, by (repeat (first | (with_reducible exact Fr.refl _ _) | (with_reducible assumption) | (with_reducible exact Fr.of_nil (by assumption)) | (with_reducible refine Fr.drew ?_) | (with_reducible refine Fr.drewN ?_ _) | (with_reducible refine Fr.alloc ?_ _) | (with_reducible refine Fr.set ?_ _ _ (by first | (intros; omega) | (simp; done) | (simp; omega))) | (with_reducible refine Fr.via ?_ (by assumption)) | (with_reducible refine Fr.comp ?_ (by assumption))))⟩
                case measure => omega
            · obtain rfl : k = N := by omega
              have i1 : ¬ ((k : Int) < (k : Int)) := by omega
              have hOW : Hid (wr.ownsRow w1.heap.size 45 2 (.slice ga k gc) k (flatP G)) := by
                have := H3.out.2.1.fr hq
                unfold PairsAt at this
                rw [HN.out] at this
                exact this
              have hqs := hq.size
              have ws : IntKind.i64.wrap ((sumL G : Int) + (m : Int)) = (sumL G : Int) + (m : Int) := by rw [IntKind.wrap_i64]; have := H3.out.2.2.2.2.2.2; omega
              have HQ := Lib.hid hq
              have hbnb : b < w1.heap.size := by have := H1.out.2.1.size; omega
              clear hq
              go_wp2_with (at_builtin; refine wpList_append_src rfl (.tmp 117) (.tmp 124) 38 rfl w1.heap.size 45 i0 (.agg #[.int .i64 0, .int .i64 0]) 2 16 Try.underlying38 hi hz0 hz1 hz2 rfl (by decide) _ k _ rfl (hOW.out.alloc _) (some ⟨wr.heap.size, 0, none⟩) 1 1 [.int .i64 (at_ : Int), .int .i64 (m : Int)] rfl (src_pair (t := 45) (by (unfold Blk; simp (disch := first | omega | (simp; done) | (simp; omega)) only [hp_drew, hp_drewN, hp_alloc, hp_other, hp_same, hp_new, upd_cells, Option.map_some]))) (by simp [Value.oneCell']) (by unfold maxLen; omega) (by omega) (by first | omega | (simp <;> omega)) ?_; intro v4 w4 hown4 hgrow4 hat4; have f4 : Fr (fun q => (Value.slice ga k gc).ownBlock = some q) wr w4 := Fr.grown (by (repeat (first | (with_reducible exact Fr.refl _ _) | (with_reducible assumption) | (with_reducible exact Fr.of_nil (by assumption)) | (with_reducible refine Fr.drew ?_) | (with_reducible refine Fr.drewN ?_ _) | (with_reducible refine Fr.alloc ?_ _) | (with_reducible refine Fr.set ?_ _ _ (by first | (intros; omega) | (simp; done) | (simp; omega))) | (with_reducible refine Fr.via ?_ (by assumption)) | (with_reducible refine Fr.comp ?_ (by assumption))))) hgrow4 (fun k q hk => q); have q4 := f4.cell q0' (fun q => by have := (hOW.out.lt _ q).1; simp at this; omega); have lt4 := f4.lt hbl4; have HF := Lib.hid (And.intro hown4 f4); clear hown4 hgrow4 hat4 f4)
              go_roundg (zs.length - (j + 1))
              case rel =>
                have fq4 : Fr (fun q => (Value.slice ga k gc).ownBlock = some q) w3 w4 := HQ.out.of_nil.comp HF.out.2
                refine ⟨j + 1, v3, M, G ++ [(at_, m)], rfl, by omega, by go_num, ?_, ?_, H3.out.1.fr fq4 (fun q hq e => ?_), H3.out.2.2.2.1, Lib.hid ⟨H3.out.2.2.2.2.1, ?_, ?_⟩, H3.out.2.2.1.trans fq4 (fun q hq e => ?_), ?_⟩
                · rw [sumL_app]
                  simp only [sumL_cons]
                  go_num
                · unfold PairsAt
                  rw [List.length_append, HN.out, flatP_append]
                  exact HF.out.1
                · have h1 := H1.out.2.2 q (by
                    rcases hq with hq | hq
                    · exact .inl hq
                    · exact .inr (by rw [← H3.out.2.2.2.1]; exact hq))
                  have h2 := (hOW.out.lt _ e).1
                  omega
                · rw [sumL_app, sumL_cons]
                  have := H3.out.2.2.2.2.2.2
                  simp only [sumL, List.map_nil, List.sum_nil] at *
                  omega
                · rw [List.length_append, HN.out]
                  simp
                  omega
                · have h2 := (hOW.out.lt _ e).1
                  have := H1.out.2.1.size
                  omega
                · have := HF.out.2.size
                  omega
              case measure => omega
    · obtain rfl : j = zs.length := by omega
      have i1 : ¬ ((zs.length : Int) < (zs.length : Int)) := by omega
      have hsG := HI.out.2.1
      have hGl := HI.out.2.2
      obtain ⟨ga, gc, rfl⟩ := hG.shape
      obtain ⟨N, hN⟩ : ∃ N, G.length = N := ⟨_, rfl⟩
      rw [hN] at hGl ⊢
      have HN := Lib.hid hN
      have HR := Lib.hid (And.intro hR (And.intro hG (And.intro hw hv')))
      have wp : IntKind.i64.wrap ((p : Int) - (sumL G : Int)) = (sumL L : Int) := by rw [IntKind.wrap_i64]; omega
      clear hR hG hw hv' HX hN
      go_wp2_with fail
      refine (free_any br f p v' L _ HR.out.1).mono ?_
      rintro e w5 ⟨rfl, f5⟩
      have H5 := Lib.hid (And.intro (HR.out.1.fr f5 (fun _ _ q => q)) (And.intro (HR.out.2.1.fr f5) (HR.out.2.2.1.comp f5)))
      have hs5 := f5.size
      clear f5
      go_wp2_with fail
      go_loopg [17] N (fun g iv wq => ∃ (k : Nat) (v6 : Value) (L6 : List (Nat × Nat)), g = N - k ∧ k ≤ N ∧ iv = .int .i64 k ∧ PairsAt w1.heap.size wq (.slice ga N gc) G ∧ RoomAt wq br f p v6 L6 ∧ Hid (Apart f p L6 ((ordL t G).drop k) ∧ ∀ q, v6.ownBlock = some q → v1.ownBlock = some q ∨ w5.heap.size ≤ q) ∧ Fr Nil w wq ∧ w5.heap.size ≤ wq.heap.size)
      case atStart => exact ⟨0, v', L, rfl, by omega, rfl, by rw [← HN.out]; exact H5.out.2.1, H5.out.1, Lib.hid ⟨HI.out.1.ord t, fun q hq => .inl (by rw [← HR.out.2.2.2]; exact hq)⟩, H5.out.2.2, Nat.le_refl _⟩
      case round =>
        obtain ⟨k, v6, L6, rfl, hk, rfl, hG6, hR6, HA6, hw6, hs6⟩ := hrel
        by_cases hkl : k < N
        · have hko : k < (ordL t G).length := by rw [ordL_len, HN.out]; exact hkl
          have hdr := List.drop_eq_getElem_cons hko
          have hA6 := HA6.out.1
          have m := hA6.mem ((ordL t G)[k]'hko) (by rw [hdr]; exact List.mem_cons_self ..)
          have HR6 := Lib.hid (And.intro hG6 (And.intro hR6 (And.intro HA6.out.2 (And.intro hw6 hs6))))
          have hGT : Hid (∀ q, (Value.slice ga N gc).ownBlock = some q → w1.heap.size ≤ q ∧ q < w5.heap.size) := fun q hq => (by
            have := H5.out.2.1
            rw [HN.out] at this
            exact this.own hq)
          have hTS6 : Hid (∀ q, TS br v6 q → q < wr.heap.size) := fun q hq => by
            rcases hq with hq | hq
            · have := hR6.blk.lt; omega
            · exact (hR6.pairs.own hq).2
          obtain ⟨g5, d5, e5⟩ := Joins.ownsRow_form (show wr.ownsRow w1.heap.size 45 2 (.slice ga N gc) N (flatP G) by have := hG6; unfold PairsAt at this; rw [HN.out] at this; exact this) (by omega)
          have e5' : ga = some ⟨g5, 0, none⟩ := by injection e5
          subst e5'
          have i0' : (0 : Int) ≤ (k : Int) := by omega
          have i1 : (k : Int) < (N : Int) := by omega
          have hbl6 := hR6.blk.lt
          clear e5 hR6 hw6 hs6 HA6
          cases t
          · -- false
            have hxo : (ordL false G)[k]'hko = G[k]'(by rw [HN.out]; exact hkl) := rfl
            rw [hxo] at hdr m
            obtain ⟨p0, p1⟩ := pair_cell hG6 HN.out.symm k (by rw [HN.out]; exact hkl)
            have lt5 : g5 < wr.heap.size := World.block_lt_of_cell? wr _ p0
            obtain ⟨x1, ex1⟩ : ∃ x1, (G[k]'(by rw [HN.out]; exact hkl)).1 = x1 := ⟨_, rfl⟩
            obtain ⟨x2, ex2⟩ : ∃ x2, (G[k]'(by rw [HN.out]; exact hkl)).2 = x2 := ⟨_, rfl⟩
            have exx : G[k]'(by rw [HN.out]; exact hkl) = (x1, x2) := Prod.ext ex1 ex2
            rw [exx] at hdr m
            rw [ex1] at p0
            rw [ex2] at p1
            simp only [] at m
            rw [hdr] at hA6
            obtain ⟨hno, hA'⟩ := hA6.give HR6.out.2.1.can
            have hgc := (give_can HR6.out.2.1.can m.2.1 m.1 m.2.2 hno).2.1 x1
            have HQ := Lib.hid (And.intro hno (And.intro hA' hgc))
            clear ex1 ex2 exx hxo hdr hA6 hno hA' hgc hG6
            go_wp2_with fail
            refine (give_in br f p v6 L6 _ (HR6.out.2.1.fr (S := Nil) (by (repeat (first | (with_reducible exact Fr.refl _ _) | (with_reducible assumption) | (with_reducible exact Fr.of_nil (by assumption)) | (with_reducible refine Fr.drew ?_) | (with_reducible refine Fr.drewN ?_ _) | (with_reducible refine Fr.alloc ?_ _) | (with_reducible refine Fr.set ?_ _ _ (by first | (intros; omega) | (simp; done) | (simp; omega))) | (with_reducible refine Fr.via ?_ (by assumption)) | (with_reducible refine Fr.comp ?_ (by assumption))))) (fun _ _ q => q)) x1 x2 m.2.1 m.1 m.2.2 HQ.out.1).mono ?_
            rintro e w7 ⟨v7, rfl, h7, o7, f7⟩
            have g7 := f7.blk (b := wr.heap.size) (c := #[.int .i64 (x1 : Int), .int .i64 (x2 : Int)]) (t := 45) (by (unfold Blk; simp (disch := first | omega | (simp; done) | (simp; omega)) only [hp_drew, hp_drewN, hp_alloc, hp_other, hp_same, hp_new, upd_cells, Option.map_some])) (fun q => by have := hTS6.out _ q; omega)
            have r0 := g7.cell 0
            have r1 := g7.cell 1
            simp at r0 r1
            have glt := g7.lt
            have H7 := Lib.hid (And.intro h7 (And.intro o7 f7))
            clear h7 o7 f7 g7
            go_wp2_with fail
            refine (give_twice br f p v7 _ _ (H7.out.1.fr (S := Nil) (by (repeat (first | (with_reducible exact Fr.refl _ _) | (with_reducible assumption) | (with_reducible exact Fr.of_nil (by assumption)) | (with_reducible refine Fr.drew ?_) | (with_reducible refine Fr.drewN ?_ _) | (with_reducible refine Fr.alloc ?_ _) | (with_reducible refine Fr.set ?_ _ _ (by first | (intros; omega) | (simp; done) | (simp; omega))) | (with_reducible refine Fr.via ?_ (by assumption)) | (with_reducible refine Fr.comp ?_ (by assumption))))) (fun _ _ q => q)) x1 x2 m.2.1 m.1 m.2.2 ⟨x1, Nat.le_refl _, by omega, HQ.out.2.2.2 (.inr ⟨Nat.le_refl _, by omega⟩)⟩).mono ?_
            rintro e w8 ⟨rfl, f8⟩
            go_wp2
            go_roundg (N - (k + 1))
            case rel =>
              have fa : Fr (TS br v6) wr w7 := (show Fr (TS br v6) wr _ from by (repeat (first | (with_reducible exact Fr.refl _ _) | (with_reducible assumption) | (with_reducible exact Fr.of_nil (by assumption)) | (with_reducible refine Fr.drew ?_) | (with_reducible refine Fr.drewN ?_ _) | (with_reducible refine Fr.alloc ?_ _) | (with_reducible refine Fr.set ?_ _ _ (by first | (intros; omega) | (simp; done) | (simp; omega))) | (with_reducible refine Fr.via ?_ (by assumption)) | (with_reducible refine Fr.comp ?_ (by assumption))))).trans H7.out.2.2 (fun _ _ q => q)
              have fb : Fr (TS br v6) wr w8 := fa.via (by (repeat (first | (with_reducible exact Fr.refl _ _) | (with_reducible assumption) | (with_reducible exact Fr.of_nil (by assumption)) | (with_reducible refine Fr.drew ?_) | (with_reducible refine Fr.drewN ?_ _) | (with_reducible refine Fr.alloc ?_ _) | (with_reducible refine Fr.set ?_ _ _ (by first | (intros; omega) | (simp; done) | (simp; omega))) | (with_reducible refine Fr.via ?_ (by assumption)) | (with_reducible refine Fr.comp ?_ (by assumption)))))
              have hs8 := fb.size
              have ha8 := fa.size
              refine ⟨k + 1, v7, _, rfl, by omega, by go_num, kept_fr HR6.out.1 fb (fun q hq e => ?_), H7.out.1.fr (S := Nil) (by (repeat (first | (with_reducible exact Fr.refl _ _) | (with_reducible assumption) | (with_reducible exact Fr.of_nil (by assumption)) | (with_reducible refine Fr.drew ?_) | (with_reducible refine Fr.drewN ?_ _) | (with_reducible refine Fr.alloc ?_ _) | (with_reducible refine Fr.set ?_ _ _ (by first | (intros; omega) | (simp; done) | (simp; omega))) | (with_reducible refine Fr.via ?_ (by assumption)) | (with_reducible refine Fr.comp ?_ (by assumption))))) (fun _ _ q => q), Lib.hid ⟨HQ.out.2.1, fun q hq => ?_⟩, HR6.out.2.2.2.1.trans fb (fun q hq e => by have := HR6.out.2.1.ge q e; omega), by have := HR6.out.2.2.2.2; omega⟩
              · have h1 := hGT.out q hq
                rcases e with e | e
                · have := H1.out.1.blk.lt; omega
                · rcases HR6.out.2.2.1 q e with r | r
                  · have := H1.out.2.2 q (.inr r); omega
                  · omega
              · rcases H7.out.2.1 q hq with r | r
                · exact HR6.out.2.2.1 q r
                · simp at r
                  have := HR6.out.2.2.2.2
                  exact .inr (by omega)
            case measure => omega
          · -- true
            have hxo : (ordL true G)[k]'hko = G[G.length - 1 - k]'(by have := HN.out; omega) := List.getElem_reverse _
            rw [hxo] at hdr m
            obtain ⟨ii, hii⟩ : ∃ ii, G.length - 1 - k = ii := ⟨_, rfl⟩
            have hig : ii < G.length := by have := HN.out; omega
            have hx2 : G[G.length - 1 - k]'(by omega) = G[ii]'hig := by simp only [hii]
            rw [hx2] at hdr m
            obtain ⟨q0, q1⟩ := pair_cell hG6 HN.out.symm k (by rw [HN.out]; exact hkl)
            obtain ⟨y1, ey1⟩ : ∃ y1, (G[k]'(by rw [HN.out]; exact hkl)).1 = y1 := ⟨_, rfl⟩
            obtain ⟨y2, ey2⟩ : ∃ y2, (G[k]'(by rw [HN.out]; exact hkl)).2 = y2 := ⟨_, rfl⟩
            rw [ey1] at q0
            rw [ey2] at q1
            have wk1 : IntKind.i64.wrap ((N : Int) - 1) = (N : Int) - 1 := by rw [IntKind.wrap_i64]; omega
            have wk2 : IntKind.i64.wrap ((N : Int) - 1 - (k : Int)) = (ii : Int) := by rw [IntKind.wrap_i64]; have := HN.out; omega
            have ki0 : (0 : Int) ≤ (ii : Int) := by omega
            have ki1 : (ii : Int) < (N : Int) := by have := HN.out; omega
            obtain ⟨p0, p1⟩ := pair_cell hG6 HN.out.symm ii hig
            have lt5 : g5 < wr.heap.size := World.block_lt_of_cell? wr _ p0
            obtain ⟨x1, ex1⟩ : ∃ x1, (G[ii]'hig).1 = x1 := ⟨_, rfl⟩
            obtain ⟨x2, ex2⟩ : ∃ x2, (G[ii]'hig).2 = x2 := ⟨_, rfl⟩
            have exx : G[ii]'hig = (x1, x2) := Prod.ext ex1 ex2
            rw [exx] at hdr m
            rw [ex1] at p0
            rw [ex2] at p1
            simp only [] at m
            rw [hdr] at hA6
            obtain ⟨hno, hA'⟩ := hA6.give HR6.out.2.1.can
            have hgc := (give_can HR6.out.2.1.can m.2.1 m.1 m.2.2 hno).2.1 x1
            have HQ := Lib.hid (And.intro hno (And.intro hA' hgc))
            clear ex1 ex2 exx hxo hdr hA6 hno hA' hgc hG6 ey1 ey2 hx2 hii
            go_wp2_with fail
            refine (give_in br f p v6 L6 _ (HR6.out.2.1.fr (S := Nil) (by (repeat (first | (with_reducible exact Fr.refl _ _) | (with_reducible assumption) | (with_reducible exact Fr.of_nil (by assumption)) | (with_reducible refine Fr.drew ?_) | (with_reducible refine Fr.drewN ?_ _) | (with_reducible refine Fr.alloc ?_ _) | (with_reducible refine Fr.set ?_ _ _ (by first | (intros; omega) | (simp; done) | (simp; omega))) | (with_reducible refine Fr.via ?_ (by assumption)) | (with_reducible refine Fr.comp ?_ (by assumption))))) (fun _ _ q => q)) x1 x2 m.2.1 m.1 m.2.2 HQ.out.1).mono ?_
            rintro e w7 ⟨v7, rfl, h7, o7, f7⟩
            have g7 := f7.blk (b := wr.heap.size) (c := #[.int .i64 (x1 : Int), .int .i64 (x2 : Int)]) (t := 45) (by (unfold Blk; simp (disch := first | omega | (simp; done) | (simp; omega)) only [hp_drew, hp_drewN, hp_alloc, hp_other, hp_same, hp_new, upd_cells, Option.map_some])) (fun q => by have := hTS6.out _ q; omega)
            have r0 := g7.cell 0
            have r1 := g7.cell 1
            simp at r0 r1
            have glt := g7.lt
            have H7 := Lib.hid (And.intro h7 (And.intro o7 f7))
            clear h7 o7 f7 g7
            go_wp2_with fail
            refine (give_twice br f p v7 _ _ (H7.out.1.fr (S := Nil) (by (repeat (first | (with_reducible exact Fr.refl _ _) | (with_reducible assumption) | (with_reducible exact Fr.of_nil (by assumption)) | (with_reducible refine Fr.drew ?_) | (with_reducible refine Fr.drewN ?_ _) | (with_reducible refine Fr.alloc ?_ _) | (with_reducible refine Fr.set ?_ _ _ (by first | (intros; omega) | (simp; done) | (simp; omega))) | (with_reducible refine Fr.via ?_ (by assumption)) | (with_reducible refine Fr.comp ?_ (by assumption))))) (fun _ _ q => q)) x1 x2 m.2.1 m.1 m.2.2 ⟨x1, Nat.le_refl _, by omega, HQ.out.2.2.2 (.inr ⟨Nat.le_refl _, by omega⟩)⟩).mono ?_
            rintro e w8 ⟨rfl, f8⟩
            go_wp2
            go_roundg (N - (k + 1))
            case rel =>
              have fa : Fr (TS br v6) wr w7 := (show Fr (TS br v6) wr _ from by (repeat (first | (with_reducible exact Fr.refl _ _) | (with_reducible assumption) | (with_reducible exact Fr.of_nil (by assumption)) | (with_reducible refine Fr.drew ?_) | (with_reducible refine Fr.drewN ?_ _) | (with_reducible refine Fr.alloc ?_ _) | (with_reducible refine Fr.set ?_ _ _ (by first | (intros; omega) | (simp; done) | (simp; omega))) | (with_reducible refine Fr.via ?_ (by assumption)) | (with_reducible refine Fr.comp ?_ (by assumption))))).trans H7.out.2.2 (fun _ _ q => q)
              have fb : Fr (TS br v6) wr w8 := fa.via (by (repeat (first | (with_reducible exact Fr.refl _ _) | (with_reducible assumption) | (with_reducible exact Fr.of_nil (by assumption)) | (with_reducible refine Fr.drew ?_) | (with_reducible refine Fr.drewN ?_ _) | (with_reducible refine Fr.alloc ?_ _) | (with_reducible refine Fr.set ?_ _ _ (by first | (intros; omega) | (simp; done) | (simp; omega))) | (with_reducible refine Fr.via ?_ (by assumption)) | (with_reducible refine Fr.comp ?_ (by assumption)))))
              have hs8 := fb.size
              have ha8 := fa.size
              refine ⟨k + 1, v7, _, rfl, by omega, by go_num, kept_fr HR6.out.1 fb (fun q hq e => ?_), H7.out.1.fr (S := Nil) (by (repeat (first | (with_reducible exact Fr.refl _ _) | (with_reducible assumption) | (with_reducible exact Fr.of_nil (by assumption)) | (with_reducible refine Fr.drew ?_) | (with_reducible refine Fr.drewN ?_ _) | (with_reducible refine Fr.alloc ?_ _) | (with_reducible refine Fr.set ?_ _ _ (by first | (intros; omega) | (simp; done) | (simp; omega))) | (with_reducible refine Fr.via ?_ (by assumption)) | (with_reducible refine Fr.comp ?_ (by assumption))))) (fun _ _ q => q), Lib.hid ⟨HQ.out.2.1, fun q hq => ?_⟩, HR6.out.2.2.2.1.trans fb (fun q hq e => by have := HR6.out.2.1.ge q e; omega), by have := HR6.out.2.2.2.2; omega⟩
              · have h1 := hGT.out q hq
                rcases e with e | e
                · have := H1.out.1.blk.lt; omega
                · rcases HR6.out.2.2.1 q e with r | r
                  · have := H1.out.2.2 q (.inr r); omega
                  · omega
              · rcases H7.out.2.1 q hq with r | r
                · exact HR6.out.2.2.1 q r
                · simp at r
                  have := HR6.out.2.2.2.2
                  exact .inr (by omega)
            case measure => omega
        · obtain rfl : k = N := by omega
          have i1 : ¬ ((k : Int) < (k : Int)) := by omega
          have hA6 := HA6.out.1
          rw [List.drop_of_length_le (by rw [ordL_len, HN.out]; exact Nat.le_refl _)] at hA6
          obtain rfl := hA6.done hR6.can
          have hbl6 := hR6.blk.lt
          have HR6 := Lib.hid (And.intro hR6 hw6)
          clear hA6 hG6 hR6 hw6 hs6 HA6
          rcases Nat.eq_zero_or_pos p with rfl | hpp
          · go_wp2_with fail
            refine (list_any br f 0 v6 _ _ (HR6.out.1.fr (S := Nil) (by (repeat (first | (with_reducible exact Fr.refl _ _) | (with_reducible assumption) | (with_reducible exact Fr.of_nil (by assumption)) | (with_reducible refine Fr.drew ?_) | (with_reducible refine Fr.drewN ?_ _) | (with_reducible refine Fr.alloc ?_ _) | (with_reducible refine Fr.set ?_ _ _ (by first | (intros; omega) | (simp; done) | (simp; omega))) | (with_reducible refine Fr.via ?_ (by assumption)) | (with_reducible refine Fr.comp ?_ (by assumption))))) (fun _ _ q => q))).mono ?_
            rintro e w7 ⟨v7, rfl, h7, f7⟩
            rw [show newL f 0 = [] from rfl] at h7
            obtain ⟨a7, c7, rfl⟩ := h7.shape
            go_wp2
            go_ret
            exact ⟨rfl, HR6.out.2.comp (by (repeat (first | (with_reducible exact Fr.refl _ _) | (with_reducible assumption) | (with_reducible exact Fr.of_nil (by assumption)) | (with_reducible refine Fr.drew ?_) | (with_reducible refine Fr.drewN ?_ _) | (with_reducible refine Fr.alloc ?_ _) | (with_reducible refine Fr.set ?_ _ _ (by first | (intros; omega) | (simp; done) | (simp; omega))) | (with_reducible refine Fr.via ?_ (by assumption)) | (with_reducible refine Fr.comp ?_ (by assumption)))))⟩
          · have hnl : newL f p = [(f, p)] := by unfold newL; rw [if_neg (by omega)]
            have e0 : ¬ (p : Int) = 0 := by omega
            have e1 : ((p : Int) == 0) = false := by simp; omega
            go_wp2_with fail
            refine (list_any br f p v6 _ _ (HR6.out.1.fr (S := Nil) (by (repeat (first | (with_reducible exact Fr.refl _ _) | (with_reducible assumption) | (with_reducible exact Fr.of_nil (by assumption)) | (with_reducible refine Fr.drew ?_) | (with_reducible refine Fr.drewN ?_ _) | (with_reducible refine Fr.alloc ?_ _) | (with_reducible refine Fr.set ?_ _ _ (by first | (intros; omega) | (simp; done) | (simp; omega))) | (with_reducible refine Fr.via ?_ (by assumption)) | (with_reducible refine Fr.comp ?_ (by assumption))))) (fun _ _ q => q))).mono ?_
            rw [hnl]
            rintro e w7 ⟨v7, rfl, h7, f7⟩
            obtain ⟨a7, c7, rfl⟩ := h7.shape
            go_wp2_with fail
            refine (same_any [(f, p)] [(f, p)] _ _ _ w7.heap.size _ (h7.fr (by (repeat (first | (with_reducible exact Fr.refl _ _) | (with_reducible assumption) | (with_reducible exact Fr.of_nil (by assumption)) | (with_reducible refine Fr.drew ?_) | (with_reducible refine Fr.drewN ?_ _) | (with_reducible refine Fr.alloc ?_ _) | (with_reducible refine Fr.set ?_ _ _ (by first | (intros; omega) | (simp; done) | (simp; omega))) | (with_reducible refine Fr.via ?_ (by assumption)) | (with_reducible refine Fr.comp ?_ (by assumption)))))) (PairsAt.mk rfl (g := w7.heap.size) (cur := #[.int .i64 (f : Int), .int .i64 (p : Int)]) (Nat.le_refl _) (by (unfold Blk; simp (disch := first | omega | (simp; done) | (simp; omega)) only [hp_drew, hp_drewN, hp_alloc, hp_other, hp_same, hp_new, upd_cells, Option.map_some])) (by simp) (by unfold maxLen; simp) rfl rfl) (by simp) (by simp)).mono ?_
            rw [show decide ([(f, p)] = [(f, p)]) = true from by simp]
            rintro e w8 ⟨rfl, f8⟩
            go_wp2
            go_ret
            exact ⟨rfl, HR6.out.2.comp (by (repeat (first | (with_reducible exact Fr.refl _ _) | (with_reducible assumption) | (with_reducible exact Fr.of_nil (by assumption)) | (with_reducible refine Fr.drew ?_) | (with_reducible refine Fr.drewN ?_ _) | (with_reducible refine Fr.alloc ?_ _) | (with_reducible refine Fr.set ?_ _ _ (by first | (intros; omega) | (simp; done) | (simp; omega))) | (with_reducible refine Fr.via ?_ (by assumption)) | (with_reducible refine Fr.comp ?_ (by assumption)))))⟩
theorem apart_any (f p : Int) (v : Value) (zs : List Int) (t : Bool) (w : World) (hv : RowInts w v zs) :
    Calls Try.prog 4 #[.int .i64 f, .int .i64 p, v, .bool t] w fun e w' => e = .returned (.bool true) ∧ Fr Nil w w' := by
  by_cases ho : OutD f p zs.length
  · exact apart_out f p v zs t w hv ho
  · unfold OutD at ho
    obtain ⟨f, rfl⟩ := Int.eq_ofNat_of_zero_le (by omega : 0 ≤ f)
    obtain ⟨p, rfl⟩ := Int.eq_ofNat_of_zero_le (by omega : 0 ≤ p)
    exact apart_in f p (by omega) (by omega) v zs t w hv (by omega)
end Go.Proofs.Ytjcnbfiholcjkaa
