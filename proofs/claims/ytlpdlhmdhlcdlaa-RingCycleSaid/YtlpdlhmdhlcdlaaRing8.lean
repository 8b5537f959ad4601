/-
  Package ring: List, what it tells. Conditions: cells lie within the words.
-/
import Derived.Test.YtlpdlhmdhlcdlaaRing7
import Derived.Laws.EntriesVeiled
namespace Go.Proofs.Ytlpdlhmdhlcdlaa
set_option linter.unusedSimpArgs false
set_option linter.unusedVariables false
open Go.RowKit Go.Shelf
attribute [local go_sem] Oper.semAt_some

theorem cells_any (w : World) (rg : Nat) :
    Calls Try.prog 36 #[.pointer (some ⟨rg, 0, none⟩)] w fun e w' => e = .returned (.func (.func 49) #[] #[.pointer (some ⟨w.heap.size, 0, none⟩)]) ∧ w' = w.alloc (.cells #[.pointer (some ⟨rg, 0, none⟩)] 24) := by
  go_enter Try.func36, Try.ntmps36
  go_wp2
  go_ret
  exact ⟨rfl, rfl⟩
/-- The rows one by one, as a function. -/
def rowF (S : Seg4) : Nat → List Nat := fun j => if j = 0 then S.W else if j = 1 then S.F else if j = 2 then S.G else S.B
/-- How far: so many cells of all have come. -/
def gotF (S : Seg4) (k : Nat) : Nat → List Nat := fun j =>
  if j = 0 then S.W.take k else if j = 1 then S.F.take (k - S.W.length) else if j = 2 then S.G.take (k - S.W.length - S.F.length) else S.B.take (k - S.W.length - S.F.length - S.G.length)
def remF (S : Seg4) (k : Nat) : Nat → Nat := fun j => (rowF S j).length - (gotF S k j).length
theorem gotF_zero (S : Seg4) (j : Nat) : gotF S 0 j = [] := by
  unfold gotF
  split <;> simp
theorem ixs_split : ∀ {L : List Nat} {i : Nat} {P R : List (Nat × Nat)} {x : Nat × Nat}, ixs i L = P ++ x :: R → ∃ A B, L = A ++ x.2 :: B ∧ A.length = P.length
  | [], i, P, R, x, h => by simp [ixs] at h
  | c :: L, i, [], R, x, h => by
    simp [ixs] at h
    exact ⟨[], L, by rw [← h.1]; rfl, rfl⟩
  | c :: L, i, y :: P, R, x, h => by
    simp [ixs] at h
    obtain ⟨A, B, e, h2⟩ := ixs_split h.2
    exact ⟨c :: A, B, by rw [e]; rfl, by simp [h2]⟩
theorem ixs_len : ∀ (L : List Nat) (i : Nat), (ixs i L).length = L.length
  | [], _ => rfl
  | c :: L, i => by simp [ixs, ixs_len L (i + 1)]
theorem OutsAt.congr {w : World} {base ob cb lb rb : Nat} {v : Nat → Value} {got got' : Nat → List Nat} {rem rem' : Nat → Nat} {col : Nat} (h : OutsAt w base ob cb lb rb v got rem col) (hg : ∀ i, i < 4 → got' i = got i) (hr : ∀ i, i < 4 → rem' i = rem i) : OutsAt w base ob cb lb rb v got' rem' col :=
  ⟨h.out, h.col, by rw [hr 0 (by omega), hr 1 (by omega), hr 2 (by omega), hr 3 (by omega)]; exact h.left, h.rows, fun j hj => by rw [hg j hj]; exact h.row j hj, h.apart, h.le⟩
theorem gotF_le (S : Seg4) (k j : Nat) : (gotF S k j).length ≤ S.all.length := by
  unfold gotF Seg4.all
  split
  · simp; omega
  · split
    · simp; omega
    · split
      · simp; omega
      · simp; omega
theorem remF_le (S : Seg4) (k j : Nat) : remF S k j ≤ S.all.length := by
  unfold remF rowF Seg4.all
  split
  · simp; omega
  · split
    · simp; omega
    · split
      · simp; omega
      · simp; omega
theorem take_at {L : List Nat} {c p : Nat} (h : L[p]? = some c) : p < L.length ∧ L.take (p + 1) = L.take p ++ [c] ∧ L.length - (L.take p).length = (L.length - (p + 1)) + 1 ∧ L.length - (L.take (p + 1)).length = L.length - (p + 1) := by
  obtain ⟨hk, e⟩ := List.getElem?_eq_some_iff.1 h
  refine ⟨hk, ?_, by simp; omega, by simp; omega⟩
  rw [List.take_succ_eq_append_getElem hk, e]
theorem full {L : List Nat} {p : Nat} (h : L.length ≤ p) : L.length - (L.take p).length = 0 := by simp; omega
theorem rowpos {S : Seg4} {A B : List Nat} {c : Nat} (h : S.all = A ++ c :: B) :
    ∃ j m, j < 4 ∧ (∀ i, i < j → remF S A.length i = 0) ∧ remF S A.length j = m + 1 ∧ (∀ i, i < 4 → gotF S (A.length + 1) i = upd (gotF S A.length) j (gotF S A.length j ++ [c]) i) ∧ (∀ i, i < 4 → remF S (A.length + 1) i = upd (remF S A.length) j m i) := by
  have hc : S.all[A.length]? = some c := by rw [h]; simp
  obtain ⟨k, hk⟩ : ∃ k, A.length = k := ⟨_, rfl⟩
  rw [hk] at hc ⊢
  unfold Seg4.all at hc
  have r0 : ∀ q, remF S q 0 = S.W.length - (S.W.take q).length := fun _ => rfl
  have r1 : ∀ q, remF S q 1 = S.F.length - (S.F.take (q - S.W.length)).length := fun _ => rfl
  have r2 : ∀ q, remF S q 2 = S.G.length - (S.G.take (q - S.W.length - S.F.length)).length := fun _ => rfl
  have r3 : ∀ q, remF S q 3 = S.B.length - (S.B.take (q - S.W.length - S.F.length - S.G.length)).length := fun _ => rfl
  have t0 : ∀ q, gotF S q 0 = S.W.take q := fun _ => rfl
  have t1 : ∀ q, gotF S q 1 = S.F.take (q - S.W.length) := fun _ => rfl
  have t2 : ∀ q, gotF S q 2 = S.G.take (q - S.W.length - S.F.length) := fun _ => rfl
  have t3 : ∀ q, gotF S q 3 = S.B.take (q - S.W.length - S.F.length - S.G.length) := fun _ => rfl
  rcases Nat.lt_or_ge k S.W.length with k0 | k0
  · rw [List.getElem?_append_left k0] at hc
    obtain ⟨_, e1, e2, e3⟩ := take_at hc
    refine ⟨0, S.W.length - (k + 1), by omega, fun i q => by omega, by rw [r0]; exact e2, fun i hi => ?_, fun i hi => ?_⟩
    · refine four (P := fun i => gotF S (k + 1) i = upd (gotF S k) 0 (gotF S k 0 ++ [c]) i) hi ?_ ?_ ?_ ?_
      · rw [upd_same, t0, t0]; exact e1
      · rw [upd_other _ _ (by omega), t1, t1, show k + 1 - S.W.length = 0 by omega, show k - S.W.length = 0 by omega]
      · rw [upd_other _ _ (by omega), t2, t2, show k + 1 - S.W.length - S.F.length = 0 by omega, show k - S.W.length - S.F.length = 0 by omega]
      · rw [upd_other _ _ (by omega), t3, t3, show k + 1 - S.W.length - S.F.length - S.G.length = 0 by omega, show k - S.W.length - S.F.length - S.G.length = 0 by omega]
    · refine four (P := fun i => remF S (k + 1) i = upd (remF S k) 0 (S.W.length - (k + 1)) i) hi ?_ ?_ ?_ ?_
      · rw [upd_same, r0]; exact e3
      · rw [upd_other _ _ (by omega), r1, r1, show k + 1 - S.W.length = 0 by omega, show k - S.W.length = 0 by omega]
      · rw [upd_other _ _ (by omega), r2, r2, show k + 1 - S.W.length - S.F.length = 0 by omega, show k - S.W.length - S.F.length = 0 by omega]
      · rw [upd_other _ _ (by omega), r3, r3, show k + 1 - S.W.length - S.F.length - S.G.length = 0 by omega, show k - S.W.length - S.F.length - S.G.length = 0 by omega]
  · rw [List.getElem?_append_right k0] at hc
    have z0 : remF S k 0 = 0 := by rw [r0]; exact full k0
    have z0' : remF S (k + 1) 0 = 0 := by rw [r0]; exact full (by omega)
    have y0 : gotF S (k + 1) 0 = gotF S k 0 := by rw [t0, t0, List.take_of_length_le k0, List.take_of_length_le (by omega)]
    have low1 : ∀ i, i < 1 → remF S k i = 0 := fun i q => by
      have e : i = 0 := by omega
      subst e
      exact z0
    rcases Nat.lt_or_ge (k - S.W.length) S.F.length with k1 | k1
    · rw [List.getElem?_append_left k1] at hc
      obtain ⟨_, e1, e2, e3⟩ := take_at hc
      have ek : k + 1 - S.W.length = k - S.W.length + 1 := by omega
      refine ⟨1, S.F.length - (k - S.W.length + 1), by omega, low1, by rw [r1]; exact e2, fun i hi => ?_, fun i hi => ?_⟩
      · refine four (P := fun i => gotF S (k + 1) i = upd (gotF S k) 1 (gotF S k 1 ++ [c]) i) hi ?_ ?_ ?_ ?_
        · rw [upd_other _ _ (by omega)]; exact y0
        · rw [upd_same, t1, t1, ek]; exact e1
        · rw [upd_other _ _ (by omega), t2, t2, show k + 1 - S.W.length - S.F.length = 0 by omega, show k - S.W.length - S.F.length = 0 by omega]
        · rw [upd_other _ _ (by omega), t3, t3, show k + 1 - S.W.length - S.F.length - S.G.length = 0 by omega, show k - S.W.length - S.F.length - S.G.length = 0 by omega]
      · refine four (P := fun i => remF S (k + 1) i = upd (remF S k) 1 (S.F.length - (k - S.W.length + 1)) i) hi ?_ ?_ ?_ ?_
        · rw [upd_other _ _ (by omega), z0, z0']
        · rw [upd_same, r1, ek]; exact e3
        · rw [upd_other _ _ (by omega), r2, r2, show k + 1 - S.W.length - S.F.length = 0 by omega, show k - S.W.length - S.F.length = 0 by omega]
        · rw [upd_other _ _ (by omega), r3, r3, show k + 1 - S.W.length - S.F.length - S.G.length = 0 by omega, show k - S.W.length - S.F.length - S.G.length = 0 by omega]
    · rw [List.getElem?_append_right k1] at hc
      have z1 : remF S k 1 = 0 := by rw [r1]; exact full k1
      have z1' : remF S (k + 1) 1 = 0 := by rw [r1]; exact full (by omega)
      have y1 : gotF S (k + 1) 1 = gotF S k 1 := by rw [t1, t1, List.take_of_length_le k1, List.take_of_length_le (by omega)]
      rcases Nat.lt_or_ge (k - S.W.length - S.F.length) S.G.length with k2 | k2
      · rw [List.getElem?_append_left k2] at hc
        obtain ⟨_, e1, e2, e3⟩ := take_at hc
        have ek : k + 1 - S.W.length - S.F.length = k - S.W.length - S.F.length + 1 := by omega
        refine ⟨2, S.G.length - (k - S.W.length - S.F.length + 1), by omega, fun i q => by
          rcases Nat.lt_or_ge i 1 with g | g
          · obtain rfl : i = 0 := by omega
            exact z0
          · obtain rfl : i = 1 := by omega
            exact z1, by rw [r2]; exact e2, fun i hi => ?_, fun i hi => ?_⟩
        · refine four (P := fun i => gotF S (k + 1) i = upd (gotF S k) 2 (gotF S k 2 ++ [c]) i) hi ?_ ?_ ?_ ?_
          · rw [upd_other _ _ (by omega)]; exact y0
          · rw [upd_other _ _ (by omega)]; exact y1
          · rw [upd_same, t2, t2, ek]; exact e1
          · rw [upd_other _ _ (by omega), t3, t3, show k + 1 - S.W.length - S.F.length - S.G.length = 0 by omega, show k - S.W.length - S.F.length - S.G.length = 0 by omega]
        · refine four (P := fun i => remF S (k + 1) i = upd (remF S k) 2 (S.G.length - (k - S.W.length - S.F.length + 1)) i) hi ?_ ?_ ?_ ?_
          · rw [upd_other _ _ (by omega), z0, z0']
          · rw [upd_other _ _ (by omega), z1, z1']
          · rw [upd_same, r2, ek]; exact e3
          · rw [upd_other _ _ (by omega), r3, r3, show k + 1 - S.W.length - S.F.length - S.G.length = 0 by omega, show k - S.W.length - S.F.length - S.G.length = 0 by omega]
      · rw [List.getElem?_append_right k2] at hc
        have z2 : remF S k 2 = 0 := by rw [r2]; exact full k2
        have z2' : remF S (k + 1) 2 = 0 := by rw [r2]; exact full (by omega)
        have y2 : gotF S (k + 1) 2 = gotF S k 2 := by rw [t2, t2, List.take_of_length_le k2, List.take_of_length_le (by omega)]
        obtain ⟨_, e1, e2, e3⟩ := take_at hc
        have ek : k + 1 - S.W.length - S.F.length - S.G.length = k - S.W.length - S.F.length - S.G.length + 1 := by omega
        refine ⟨3, S.B.length - (k - S.W.length - S.F.length - S.G.length + 1), by omega, fun i q => by
          rcases Nat.lt_or_ge i 1 with g | g
          · obtain rfl : i = 0 := by omega
            exact z0
          · rcases Nat.lt_or_ge i 2 with g | g
            · obtain rfl : i = 1 := by omega
              exact z1
            · obtain rfl : i = 2 := by omega
              exact z2, by rw [r3]; exact e2, fun i hi => ?_, fun i hi => ?_⟩
        · refine four (P := fun i => gotF S (k + 1) i = upd (gotF S k) 3 (gotF S k 3 ++ [c]) i) hi ?_ ?_ ?_ ?_
          · rw [upd_other _ _ (by omega)]; exact y0
          · rw [upd_other _ _ (by omega)]; exact y1
          · rw [upd_other _ _ (by omega)]; exact y2
          · rw [upd_same, t3, t3, ek]; exact e1
        · refine four (P := fun i => remF S (k + 1) i = upd (remF S k) 3 (S.B.length - (k - S.W.length - S.F.length - S.G.length + 1)) i) hi ?_ ?_ ?_ ?_
          · rw [upd_other _ _ (by omega), z0, z0']
          · rw [upd_other _ _ (by omega), z1, z1']
          · rw [upd_other _ _ (by omega), z2, z2']
          · rw [upd_same, r3, ek]; exact e3
theorem gotF_all (S : Seg4) : gotF S S.all.length 0 = S.W ∧ gotF S S.all.length 1 = S.F ∧ gotF S S.all.length 2 = S.G ∧ gotF S S.all.length 3 = S.B := by
  have h : S.all.length = S.W.length + (S.F.length + (S.G.length + S.B.length)) := by simp [Seg4.all]
  rw [h]
  exact ⟨List.take_of_length_le (by omega), List.take_of_length_le (by omega), List.take_of_length_le (by omega), List.take_of_length_le (by omega)⟩
theorem owns_base {w : World} {base base' size n : Nat} {t : TypeId} {u : Value} {xs : List Value} (h : w.ownsRow base t size u n xs) (hb : base' ≤ base) : w.ownsRow base' t size u n xs := by
  obtain ⟨h1, h2⟩ := h
  refine ⟨h1, ?_⟩
  rcases h2 with h2 | ⟨g, cap, cur, hv, hg, r⟩
  · exact Or.inl h2
  · exact Or.inr ⟨g, cap, cur, hv, by omega, r⟩
def RowN (base : Nat) (w : World) (v : Value) (L : List Nat) : Prop := w.ownsRow base 3 1 v L.length (L.map natV)
set_option maxRecDepth 100000 in
set_option maxHeartbeats 4000000 in
theorem list_any (rg ba bw n u : Nat) (S : Seg4) (w : World) (h : RingIs w rg ba bw n S u) (hu : u ≤ 800000000000) :
    Calls Try.prog 10 #[.pointer (some ⟨rg, 0, none⟩)] w fun e w' => (∃ v0 v1 v2 v3, e = .returned (.agg #[v0, v1, v2, v3]) ∧ RowN w.heap.size w' v0 S.W ∧ RowN w.heap.size w' v1 S.F ∧ RowN w.heap.size w' v2 S.G ∧ RowN w.heap.size w' v3 S.B) ∧ (∃ u', RingIs w' rg ba bw n S u' ∧ u' ≤ u + 100000) ∧ Fr (fun x => x = ba) w w' := by
  have HH := Lib.hid h
  obtain ⟨ll, f, b, h, hO⟩ := h
  obtain ⟨c0, c1, c2, c3, c4, c5, c6, cz, clt⟩ := h.facts
  have hal := h.ar.box.lt
  have hwl := h.ar.words.lt
  obtain ⟨N0, hN0⟩ : ∃ N, S.W.length = N := ⟨_, rfl⟩
  obtain ⟨N1, hN1⟩ : ∃ N, S.F.length = N := ⟨_, rfl⟩
  obtain ⟨N2, hN2⟩ : ∃ N, S.G.length = N := ⟨_, rfl⟩
  obtain ⟨N3, hN3⟩ : ∃ N, S.B.length = N := ⟨_, rfl⟩
  rw [hN0] at c3
  rw [hN1] at c4
  rw [hN2] at c5
  rw [hN3] at c6
  have HN := Lib.hid (And.intro hN0 (And.intro hN1 (And.intro hN2 hN3)))
  have HB : Hid (S.all.length ≤ 100000) := by
    rw [S.num_eq]
    have := hO.num
    have := hO.len
    have := h.hl
    exact Lib.hid (by omega)
  clear h hO hN0 hN1 hN2 hN3
  refine (callsIn_wide (n := 7)).1 (callsIn_of_wp_marks Try.func10 rfl trivial (wpIn_wide.2 ?_) rfl)
  simp only [Try.ntmps10, List.size_toArray, List.length_cons, List.length_nil, Nat.reduceAdd, Nat.reduceSub, Array.replicate_succ, Array.replicate_zero, List.push_toArray, List.append_toArray, List.nil_append, List.cons_append]
  go_upto_region 3 with fail
  obtain ⟨W0, hW0⟩ : ∃ W0, ((w.alloc (.cells #[.slice none 0 0, .slice none 0 0, .slice none 0 0, .slice none 0 0] 32)).alloc (.cells #[.slice none 0 0, .slice none 0 0, .slice none 0 0, .slice none 0 0] 32)).alloc (.cells #[.pointer (some ⟨w.heap.size + 1, 0, none⟩), .pointer (some ⟨w.heap.size + 1, 1, none⟩), .pointer (some ⟨w.heap.size + 1, 2, none⟩), .pointer (some ⟨w.heap.size + 1, 3, none⟩)] 72) = W0 := ⟨_, rfl⟩
  rw [hW0]
  have f0 : Fr Nil w W0 := by rw [← hW0]; (repeat (first | (with_reducible exact Fr.refl _ _) | (with_reducible assumption) | (with_reducible exact Fr.of_nil (by assumption)) | (with_reducible refine Fr.drew ?_) | (with_reducible refine Fr.drewN ?_ _) | (with_reducible refine Fr.alloc ?_ _) | (with_reducible refine Fr.set ?_ _ _ (by first | (intros; omega) | (simp; done) | (simp; omega))) | (with_reducible refine Fr.via ?_ (by assumption)) | (with_reducible refine Fr.comp ?_ (by assumption))))
  have bQ : Blk W0 w.heap.size #[.slice none 0 0, .slice none 0 0, .slice none 0 0, .slice none 0 0] 32 := by rw [← hW0]; (unfold Blk; simp (disch := first | omega | (simp; done) | (simp; omega)) only [hp_drew, hp_drewN, hp_alloc, hp_other, hp_same, hp_new, upd_cells, Option.map_some])
  have bO : Blk W0 (w.heap.size + 1) #[.slice none 0 0, .slice none 0 0, .slice none 0 0, .slice none 0 0] 32 := by rw [← hW0]; (unfold Blk; simp (disch := first | omega | (simp; done) | (simp; omega)) only [hp_drew, hp_drewN, hp_alloc, hp_other, hp_same, hp_new, upd_cells, Option.map_some])
  have bR : Blk W0 (w.heap.size + 2) #[.pointer (some ⟨w.heap.size + 1, 0, none⟩), .pointer (some ⟨w.heap.size + 1, 1, none⟩), .pointer (some ⟨w.heap.size + 1, 2, none⟩), .pointer (some ⟨w.heap.size + 1, 3, none⟩)] 72 := by rw [← hW0]; (unfold Blk; simp (disch := first | omega | (simp; done) | (simp; omega)) only [hp_drew, hp_drewN, hp_alloc, hp_other, hp_same, hp_new, upd_cells, Option.map_some])
  have sz0 : W0.heap.size = w.heap.size + 3 := by rw [← hW0]; simp
  have d0 := f0.cell c0 (fun q => q)
  have d3 := f0.cell c3 (fun q => q)
  have d4 := f0.cell c4 (fun q => q)
  have d5 := f0.cell c5 (fun q => q)
  have d6 := f0.cell c6 (fun q => q)
  have dlt := f0.lt clt
  have H0 := Lib.hid (And.intro f0 (And.intro bQ (And.intro bO (And.intro bR sz0))))
  clear hW0 sz0 f0 bQ bO bR c0 c1 c2 c3 c4 c5 c6 cz
  go_cut [5, 6] from 10 to 18 (fun cv lv wx => ∃ cb lb, cv = .pointer (some ⟨cb, 0, none⟩) ∧ lv = .pointer (some ⟨lb, 0, none⟩) ∧ Hid (Blk wx cb #[.int .i64 0] 3 ∧ Blk wx lb #[.int .i64 (N0 : Int), .int .i64 (N1 : Int), .int .i64 (N2 : Int), .int .i64 (N3 : Int)] 38 ∧ w.heap.size + 3 ≤ cb ∧ w.heap.size + 3 ≤ lb ∧ cb < w.heap.size + 5 ∧ lb < w.heap.size + 5 ∧ wx.heap.size = w.heap.size + 5 ∧ Fr Nil W0 wx))
  case first =>
    go_region
    all_goals
      go_wp2_with fail
      go_meet
      case rel =>
        have sz0 := H0.out.2.2.2.2
        refine ⟨_, _, rfl, rfl, Lib.hid ⟨by (unfold Blk; simp (disch := first | omega | (simp; done) | (simp; omega)) only [hp_drew, hp_drewN, hp_alloc, hp_other, hp_same, hp_new, upd_cells, Option.map_some]), by (unfold Blk; simp (disch := first | omega | (simp; done) | (simp; omega)) only [hp_drew, hp_drewN, hp_alloc, hp_other, hp_same, hp_new, upd_cells, Option.map_some]), by first | omega | (simp; omega), by first | omega | (simp; omega), by first | omega | (simp; omega), by first | omega | (simp; omega), by simp [sz0], by (repeat (first | (with_reducible exact Fr.refl _ _) | (with_reducible assumption) | (with_reducible exact Fr.of_nil (by assumption)) | (with_reducible refine Fr.drew ?_) | (with_reducible refine Fr.drewN ?_ _) | (with_reducible refine Fr.alloc ?_ _) | (with_reducible refine Fr.set ?_ _ _ (by first | (intros; omega) | (simp; done) | (simp; omega))) | (with_reducible refine Fr.via ?_ (by assumption)) | (with_reducible refine Fr.comp ?_ (by assumption))))⟩⟩
  case rest =>
    obtain ⟨cb, lb, rfl, rfl, HC⟩ := hcut
    have hwc := HC.out.2.2.2.2.2.2.1
    have HWC := Lib.hid hwc
    clear hwc d0 d3 d4 d5 d6 dlt
    go_wp2_with (go_at_call 36; refine (cells_any _ _).mono ?_; rintro e w1 ⟨rfl, rfl⟩)
    obtain ⟨V, hV⟩ : ∃ V, (wc.alloc (.cells #[.func (.func 35) #[] #[.pointer (some ⟨lb, 0, none⟩), .pointer (some ⟨cb, 0, none⟩), .pointer (some ⟨w.heap.size + 1 + 1, 0, none⟩)]] 73)).alloc (.cells #[.pointer (some ⟨rg, 0, none⟩)] 24) = V := ⟨_, rfl⟩
    rw [hV]
    have fV : Fr Nil W0 V := by rw [← hV]; exact HC.out.2.2.2.2.2.2.2.comp (by (repeat (first | (with_reducible exact Fr.refl _ _) | (with_reducible assumption) | (with_reducible exact Fr.of_nil (by assumption)) | (with_reducible refine Fr.drew ?_) | (with_reducible refine Fr.drewN ?_ _) | (with_reducible refine Fr.alloc ?_ _) | (with_reducible refine Fr.set ?_ _ _ (by first | (intros; omega) | (simp; done) | (simp; omega))) | (with_reducible refine Fr.via ?_ (by assumption)) | (with_reducible refine Fr.comp ?_ (by assumption)))))
    have bF : Blk V wc.heap.size #[.func (.func 35) #[] #[.pointer (some ⟨lb, 0, none⟩), .pointer (some ⟨cb, 0, none⟩), .pointer (some ⟨w.heap.size + 1 + 1, 0, none⟩)]] 73 := by rw [← hV]; (unfold Blk; simp (disch := first | omega | (simp; done) | (simp; omega)) only [hp_drew, hp_drewN, hp_alloc, hp_other, hp_same, hp_new, upd_cells, Option.map_some])
    have bB : Blk V (wc.heap.size + 1) #[.pointer (some ⟨rg, 0, none⟩)] 24 := by rw [← hV]; (unfold Blk; simp (disch := first | omega | (simp; done) | (simp; omega)) only [hp_drew, hp_drewN, hp_alloc, hp_other, hp_same, hp_new, upd_cells, Option.map_some])
    have szV : V.heap.size = w.heap.size + 7 := by rw [← hV]; simp [HWC.out]
    have fcV : Fr Nil wc V := by rw [← hV]; (repeat (first | (with_reducible exact Fr.refl _ _) | (with_reducible assumption) | (with_reducible exact Fr.of_nil (by assumption)) | (with_reducible refine Fr.drew ?_) | (with_reducible refine Fr.drewN ?_ _) | (with_reducible refine Fr.alloc ?_ _) | (with_reducible refine Fr.set ?_ _ _ (by first | (intros; omega) | (simp; done) | (simp; omega))) | (with_reducible refine Fr.via ?_ (by assumption)) | (with_reducible refine Fr.comp ?_ (by assumption))))
    have HV := Lib.hid (And.intro fV (And.intro bF (And.intro bB (And.intro szV fcV))))
    have bOut := HV.out.1.blk H0.out.2.2.1 (fun q => q)
    have bRows := HV.out.1.blk H0.out.2.2.2.1 (fun q => q)
    have bCol := fcV.blk HC.out.1 (fun q => q)
    have bLeft := fcV.blk HC.out.2.1 (fun q => q)
    have g1 := HC.out.2.2.1
    have g2 := HC.out.2.2.2.1
    have g3 := HC.out.2.2.2.2.1
    have g4 := HC.out.2.2.2.2.2.1
    have hrem0 : ∀ j, remF S 0 j = (rowF S j).length := fun j => by simp [remF, gotF_zero]
    have hw0 : Fr Nil w V := H0.out.1.comp fV
    have hstart : OutsAt V (V.heap.size + 2) (w.heap.size + 1) cb lb (w.heap.size + 1 + 1) (fun _ => .slice none 0 0) (gotF S 0) (remF S 0) 0 := by
      refine ⟨bOut, bCol, ?_, bRows, fun j hj => ?_, fun i j hi hj hne k hk => by simp [Value.ownBlock] at hk, by omega, by omega, by omega, by omega⟩
      · have := bLeft
        rw [← HN.out.1, ← HN.out.2.1, ← HN.out.2.2.1, ← HN.out.2.2.2] at this
        rw [hrem0, hrem0, hrem0, hrem0]
        exact this
      · rw [gotF_zero]
        exact World.ownsRow_nil _ _ _ _
    have HST := Lib.hid (And.intro hstart (And.intro hw0 (HV.out.1.blk H0.out.2.1 (fun q => q))))
    clear hV fV bF bB szV fcV bOut bRows bCol bLeft hw0 hstart hrem0
    have szV := HV.out.2.2.2.1
    refine wp_range (gf := 49) (lb := #[.pointer (some ⟨wc.heap.size + 1, 0, none⟩)]) (encs := encP) (T := fun k => k = ba) (U := StepS (V.heap.size + 2) (w.heap.size + 1) cb lb) (R := fun W => ∃ u', RingIs W rg ba bw n S u' ∧ u' ≤ u + 100000) (xs := ixs 0 S.all) rfl (enters_of Try.func49 (by kernel_rfl) rfl) (fun _ => rfl) (fun k q => by omega)
      (cells_walks rg ba bw n u (wc.heap.size + 1) S V _ (HH.out.fr HST.out.2.1 (fun q => q) (fun q => q) (fun q => q)) HV.out.2.2.1 (by omega) (by unfold StepS; have := HWC.out; omega) (by unfold StepS; have := HWC.out; omega) (by unfold StepS; have := HWC.out; omega) (by unfold StepS; have := HWC.out; omega))
      (fun A B ⟨u', h1, h2⟩ f => ⟨u', h1.fr f (by omega) (by omega) (by omega), h2⟩)
      (fun pre W => Hid ((∃ v col, OutsAt W (V.heap.size + 2) (w.heap.size + 1) cb lb (w.heap.size + 1 + 1) v (gotF S pre.length) (remF S pre.length) col ∧ ∀ i, i < col → remF S pre.length i = 0) ∧ Blk W wc.heap.size #[.func (.func 35) #[] #[.pointer (some ⟨lb, 0, none⟩), .pointer (some ⟨cb, 0, none⟩), .pointer (some ⟨w.heap.size + 1 + 1, 0, none⟩)]] 73 ∧ Blk W w.heap.size #[.slice none 0 0, .slice none 0 0, .slice none 0 0, .slice none 0 0] 32 ∧ Fr (fun k => k = ba) w W))
      (fun pre A B hI f => ?hI) ?h0 (fun x => { tmps := #[.pointer (some ⟨rg, 0, none⟩), undef, .pointer (some ⟨w.heap.size, 0, none⟩), .pointer (some ⟨w.heap.size + 1, 0, none⟩), .pointer (some ⟨w.heap.size + 1 + 1, 0, none⟩), .pointer (some ⟨cb, 0, none⟩), .pointer (some ⟨lb, 0, none⟩), .pointer (some ⟨wc.heap.size, 0, none⟩), undef, .int .i64 (x.2 : Int), u10, u11, u12, u13, u14, u15, u16, u17, u18, .func (.func 35) #[] #[.pointer (some ⟨lb, 0, none⟩), .pointer (some ⟨cb, 0, none⟩), .pointer (some ⟨w.heap.size + 1 + 1, 0, none⟩)], .pointer (some ⟨rg, 0, none⟩), .func (.func 49) #[] #[.pointer (some ⟨wc.heap.size + 1, 0, none⟩)], .int .i64 (x.1 : Int), .int .i64 (x.2 : Int), undef, undef, undef, undef], defers := [] }) ?assign ?body ?done
    case hI =>
      obtain ⟨⟨v, col, h1, h2⟩, h3, h4, h5⟩ := hI.out
      have hw5 := HWC.out
      refine Lib.hid ⟨⟨v, col, h1.fr f (by omega) (by omega) (by omega) (by omega) (fun k hk => by omega), h2⟩, f.blk h3 (by omega), f.blk h4 (by omega), h5.trans f (fun k hk q => by omega)⟩
    case h0 => exact Lib.hid ⟨⟨_, 0, HST.out.1, fun i q => by omega⟩, HV.out.2.1, HST.out.2.2, HST.out.2.1.of_nil⟩
    case assign =>
      clear szV
      intro l x W K hK
      simp only [encP]
      gi_wp2
      exact hK
    case body =>
      intro l pre x rest W hxs hI hWs
      obtain ⟨⟨v, col, hO, hz⟩, hF, hQ, hfw⟩ := hI.out
      obtain ⟨A, B, hall, hA⟩ := ixs_split hxs
      obtain ⟨j, m, hj, hz2, hm, hg, hr⟩ := rowpos hall
      rw [hA] at hz2 hm hg hr
      have hcj : col ≤ j := by
        rcases Nat.lt_or_ge j col with q | q
        · rw [hz j q] at hm; omega
        · exact q
      have hbnd := gotF_le S pre.length j
      have hnum : S.all.length ≤ 100000 := HB.out
      have hmb : m ≤ 100000 := by have := remF_le S pre.length j; omega
      have c7 := hF.cell 0
      have l7 := hF.lt
      simp at c7
      have HSTEP := Lib.hid (step_any W _ _ _ _ _ v _ _ col j m x.2 hO hj hm (fun i _ h => hz2 i h) hcj (by omega) hmb hWs)
      have HI := Lib.hid (And.intro hF (And.intro hQ (And.intro hfw (And.intro hg (And.intro hr (And.intro hz2 szV))))))
      clear hO hz hF hQ hfw hI hg hr hz2 hm szV
      gi_wp2_with (refine ⟨trivial, ?_⟩; gi_at_call 35; refine (CallsIn.inRound l (callsIn_wide.2 HSTEP.out)).mono ?_; rintro e w' ⟨rfl, ⟨v', h'⟩, f'⟩)
      obtain ⟨hF, hQ, hfw, hg, hr, hz2, szV⟩ := HI.out
      have hw5 := HWC.out
      refine ⟨Lib.hid ⟨⟨_, j, h'.congr hg hr, fun i hi => (hr i (by omega)).trans ((upd_other _ _ (by omega)).trans (hz2 i hi))⟩, f'.blk hF (by unfold StepS; omega), f'.blk hQ (by unfold StepS; omega), hfw.trans f' (fun k hk q => by unfold StepS at q; omega)⟩, f'.mono (fun k _ q => ⟨q, by unfold StepS at q; omega, by unfold StepS at q; omega⟩)⟩
    case done =>
      intro W hI hR hWs hK
      obtain ⟨⟨v, col, hO, hz⟩, hF, hQ, hfw⟩ := hI.out
      rw [ixs_len] at hO
      have o0 := hO.out.cell 0
      have o1 := hO.out.cell 1
      have o2 := hO.out.cell 2
      have o3 := hO.out.cell 3
      simp at o0 o1 o2 o3
      obtain ⟨a0, k0, e0⟩ := owns_sh (hO.row 0 (by omega))
      obtain ⟨a1, k1, e1⟩ := owns_sh (hO.row 1 (by omega))
      obtain ⟨a2, k2, e2⟩ := owns_sh (hO.row 2 (by omega))
      obtain ⟨a3, k3, e3⟩ := owns_sh (hO.row 3 (by omega))
      rw [e0] at o0
      rw [e1] at o1
      rw [e2] at o2
      rw [e3] at o3
      have HE := Lib.hid (And.intro e0 (And.intro e1 (And.intro e2 e3)))
      clear e0 e1 e2 e3
      have olt := hO.out.lt
      have q0 := hQ.cell 0
      have q1 := hQ.cell 1
      have q2 := hQ.cell 2
      have q3 := hQ.cell 3
      simp at q0 q1 q2 q3
      have qz := hQ.free
      have qlt := hQ.lt
      have HI := Lib.hid (And.intro hO (And.intro hQ (And.intro hfw (And.intro hK (And.intro hR szV)))))
      clear hO hz hF hQ hfw hI hK hR szV hWs
      go_wp2
      obtain ⟨X, hX⟩ : ∃ X, (((W.setCell ⟨w.heap.size, 0, none⟩ (.slice a0 (gotF S S.all.length 0).length k0)).setCell ⟨w.heap.size, 1, none⟩ (.slice a1 (gotF S S.all.length 1).length k1)).setCell ⟨w.heap.size, 2, none⟩ (.slice a2 (gotF S S.all.length 2).length k2)).setCell ⟨w.heap.size, 3, none⟩ (.slice a3 (gotF S S.all.length 3).length k3) = X := ⟨_, rfl⟩
      rw [hX]
      have bX : Blk X w.heap.size #[.slice a0 (gotF S S.all.length 0).length k0, .slice a1 (gotF S S.all.length 1).length k1, .slice a2 (gotF S S.all.length 2).length k2, .slice a3 (gotF S S.all.length 3).length k3] 32 := by
        rw [← hX]
        (unfold Blk; simp (disch := first | omega | (simp; done) | (simp; omega)) only [hp_drew, hp_drewN, hp_alloc, hp_other, hp_same, hp_new, upd_cells, Option.map_some, (HI.out.2.1).eq])
        simp
      have fX : Fr (fun k => k = w.heap.size) W X := by rw [← hX]; (repeat (first | (with_reducible exact Fr.refl _ _) | (with_reducible assumption) | (with_reducible exact Fr.of_nil (by assumption)) | (with_reducible refine Fr.drew ?_) | (with_reducible refine Fr.drewN ?_ _) | (with_reducible refine Fr.alloc ?_ _) | (with_reducible refine Fr.set ?_ _ _ (by first | (intros; omega) | (simp; done) | (simp; omega))) | (with_reducible refine Fr.via ?_ (by assumption)) | (with_reducible refine Fr.comp ?_ (by assumption))))
      obtain ⟨hO, hQ, hfw, hK, ⟨u', hR, hu'⟩, szV⟩ := HI.out
      have hKlt := (Array.getElem?_eq_some_iff.1 hK).1
      have hKX : X.heap[V.heap.size]? = some (.deferred (some [])) := (fX.block _ hKlt (by omega)).trans hK
      have fY : Fr (fun k => k = V.heap.size) X (X.putObj V.heap.size (.deferred none)) := fr_put (Fr.refl _ _) _ _ (fun _ => rfl)
      obtain ⟨Y, hY⟩ : ∃ Y, X.putObj V.heap.size (.deferred none) = Y := ⟨_, rfl⟩
      rw [hY] at fY
      have bY := fY.blk bX (by omega)
      have y0 := bY.cell 0
      have y1 := bY.cell 1
      have y2 := bY.cell 2
      have y3 := bY.cell 3
      simp at y0 y1 y2 y3
      have fWY : Fr (fun k => k = w.heap.size ∨ k = V.heap.size) W Y := (fX.mono (fun _ _ q => .inl q)).comp (fY.mono (fun _ _ q => .inr q))
      obtain ⟨g0, g1', g2', g3'⟩ := gotF_all S
      have rowY : ∀ j, j < 4 → Y.ownsRow w.heap.size 3 1 (v j) (gotF S S.all.length j).length ((gotF S S.all.length j).map natV) := fun j hj => owns_base (owns_frS (hO.row j hj) fWY (fun q hq e => by have := ((hO.row j hj).lt q hq).1; omega)) (by omega)
      have z0 := rowY 0 (by omega)
      have z1 := rowY 1 (by omega)
      have z2 := rowY 2 (by omega)
      have z3 := rowY 3 (by omega)
      rw [HE.out.1] at z0
      rw [HE.out.2.1] at z1
      rw [HE.out.2.2.1] at z2
      rw [HE.out.2.2.2] at z3
      have hne : rg < w.heap.size ∧ ba < w.heap.size ∧ bw < w.heap.size := ⟨clt, hal, hwl⟩
      refine ⟨by simp, .inl ⟨_, _, rfl, run_takeDeferred hKX, ?_⟩⟩
      rw [hY]
      refine ⟨.agg #[.slice a0 (gotF S S.all.length 0).length k0, .slice a1 (gotF S S.all.length 1).length k1, .slice a2 (gotF S S.all.length 2).length k2, .slice a3 (gotF S S.all.length 3).length k3], by simp [results, Try.results10, go_sem, y0, y1, y2, y3], ⟨_, _, _, _, rfl, ?_, ?_, ?_, ?_⟩, ⟨u', hR.fr fWY (by omega) (by omega) (by omega), hu'⟩, ?_⟩
      · rw [g0] at z0 ⊢; exact z0
      · rw [g1'] at z1 ⊢; exact z1
      · rw [g2'] at z2 ⊢; exact z2
      · rw [g3'] at z3 ⊢; exact z3
      · exact hfw.trans fWY (fun k hk q => by omega)
end Go.Proofs.Ytlpdlhmdhlcdlaa
