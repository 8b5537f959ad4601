/-
  Contracts of package extent: Take. No conditions but sizes that the package itself asks for.
-/
import Derived.Test.YtjcnbfiholcjkaaExt2
import Derived.BigRegion
import Derived.Deep.DeepCutAuto
namespace Go.Proofs.Ytjcnbfiholcjkaa
set_option linter.unusedSimpArgs false
set_option linter.unusedVariables false
open Go.RowKit Go.Shelf

section
variable (br f p : Nat) (v : Value) (L : List (Nat × Nat)) (w : World)
theorem idx_take (n : Nat) (L : List (Nat × Nat)) : (takeL n L = none ∧ idxP (fun x : Nat × Nat => decide ((n : Int) ≤ (x.2 : Int))) L = -1) ∨
    ∃ k, ∃ hk : k < L.length, idxP (fun x : Nat × Nat => decide ((n : Int) ≤ (x.2 : Int))) L = (k : Int) ∧ n ≤ L[k].2 ∧ takeL n L = some (L[k].1, if L[k].2 = n then L.eraseIdx k else L.set k (L[k].1 + n, L[k].2 - n)) := by
  unfold idxP
  cases h : L.findIdx? (fun x : Nat × Nat => decide ((n : Int) ≤ (x.2 : Int))) with
  | none =>
    rw [List.findIdx?_eq_none_iff] at h
    exact .inl ⟨takeL_none (fun x hx q => by have := h x hx; simp at this; omega), rfl⟩
  | some k =>
    rw [List.findIdx?_eq_some_iff_getElem] at h
    obtain ⟨hk, h1, h2⟩ := h
    have h1' : n ≤ L[k].2 := by simpa using h1
    exact .inr ⟨k, hk, rfl, h1', takeL_some k hk h1' (fun j hj => by have := h2 j hj; simp at this; omega)⟩
theorem take_bad (n : Int) (hn : n < 1) : Calls Try.prog 17 #[.pointer (some ⟨br, 0, none⟩), .int .i64 n] w fun e w' => e = .returned (.tuple #[.int .i64 0, .int .i64 1]) ∧ Fr Nil w w' := by
  go_enter Try.func17, Try.ntmps17
  go_wp2
  go_ret2
  exact ⟨rfl, by (repeat (first | (with_reducible exact Fr.refl _ _) | (with_reducible assumption) | (with_reducible exact Fr.of_nil (by assumption)) | (with_reducible refine Fr.drew ?_) | (with_reducible refine Fr.drewN ?_ _) | (with_reducible refine Fr.alloc ?_ _) | (with_reducible refine Fr.set ?_ _ _ (by first | (intros; omega) | (simp; done) | (simp; omega))) | (with_reducible refine Fr.via ?_ (by assumption)) | (with_reducible refine Fr.comp ?_ (by assumption))))⟩
theorem take_full (h : RoomAt w br f p v L) (n : Nat) (hn : 1 ≤ n) (ht : takeL n L = none) : Calls Try.prog 17 #[.pointer (some ⟨br, 0, none⟩), .int .i64 (n : Int)] w fun e w' => e = .returned (.tuple #[.int .i64 0, .int .i64 2]) ∧ Fr Nil w w' := by
  have c2 := h.blk.cell 2
  simp at c2
  have hl := h.len
  have hbr := h.blk.lt
  have hi : idxP (fun x : Nat × Nat => decide ((n : Int) ≤ (x.2 : Int))) L = -1 := by
    rcases idx_take n L with ⟨_, q⟩ | ⟨k, hk, _, _, q⟩
    · exact q
    · rw [ht] at q; cases q
  have HI := Lib.hid hi
  have H := Lib.hid h
  have n1 : ¬ (n : Int) < 1 := by omega
  obtain ⟨a0, c0, e0⟩ := h.pairs.shape
  subst e0
  clear h hi ht
  go_enter Try.func17, Try.ntmps17
  go_wp2_with fail
  refine (index_take (br + 1) _ L _ (H.out.pairs.fr (by (repeat (first | (with_reducible exact Fr.refl _ _) | (with_reducible assumption) | (with_reducible exact Fr.of_nil (by assumption)) | (with_reducible refine Fr.drew ?_) | (with_reducible refine Fr.drewN ?_ _) | (with_reducible refine Fr.alloc ?_ _) | (with_reducible refine Fr.set ?_ _ _ (by first | (intros; omega) | (simp; done) | (simp; omega))) | (with_reducible refine Fr.via ?_ (by assumption)) | (with_reducible refine Fr.comp ?_ (by assumption)))))) (by omega) w.heap.size (n : Int) (by simp)).mono ?_
  rw [HI.out]
  rintro e w1 ⟨rfl, f1⟩
  obtain ⟨_, _, _⟩ := f1.at (w.heap.size) (by first | assumption | omega | (simp; done) | (simp; omega))
  go_wp2
  go_ret2
  exact ⟨rfl, by (repeat (first | (with_reducible exact Fr.refl _ _) | (with_reducible assumption) | (with_reducible exact Fr.of_nil (by assumption)) | (with_reducible refine Fr.drew ?_) | (with_reducible refine Fr.drewN ?_ _) | (with_reducible refine Fr.alloc ?_ _) | (with_reducible refine Fr.set ?_ _ _ (by first | (intros; omega) | (simp; done) | (simp; omega))) | (with_reducible refine Fr.via ?_ (by assumption)) | (with_reducible refine Fr.comp ?_ (by assumption))))⟩
set_option maxRecDepth 100000 in
set_option maxHeartbeats 4000000 in
theorem take_some (h : RoomAt w br f p v L) (n : Nat) (hn : 1 ≤ n) (a : Nat) (M : List (Nat × Nat)) (ht : takeL n L = some (a, M)) :
    Calls Try.prog 17 #[.pointer (some ⟨br, 0, none⟩), .int .i64 (n : Int)] w fun e w' => ∃ v', e = .returned (.tuple #[.int .i64 (a : Int), .int .i64 0]) ∧ RoomAt w' br f p v' M ∧ v'.ownBlock = v.ownBlock ∧ Fr (TS br v) w w' := by
  have c2 := h.blk.cell 2
  simp at c2
  have hl := h.len
  have hbr := h.blk.lt
  have hM := (takeL_can hn h.can ht).1
  rcases idx_take n L with ⟨q, _⟩ | ⟨k, hk, hi, hkn, q⟩
  · rw [ht] at q; cases q
  rw [ht] at q
  injection q with q
  injection q with q1 q2
  have hmem := can_mem h.can _ (List.getElem_mem hk)
  have hf := h.hf
  have hp := h.hp
  have HI := Lib.hid hi
  obtain ⟨N, hN⟩ : ∃ N, L.length = N := ⟨_, rfl⟩
  obtain ⟨g, cap, rfl⟩ := h.pairs.form (by omega)
  have H := Lib.hid h
  have HN := Lib.hid hN
  rw [hN] at c2 hl
  have hkN : k < N := by omega
  have n1 : ¬ (n : Int) < 1 := by omega
  have i0 : (0 : Int) ≤ (k : Int) := by omega
  have i1 : (k : Int) < (N : Int) := by omega
  have i2 : ¬ (k : Int) < 0 := by omega
  obtain ⟨xa, hxa⟩ : ∃ xa, L[k].1 = xa := ⟨_, rfl⟩
  obtain ⟨xn, hxn⟩ : ∃ xn, L[k].2 = xn := ⟨_, rfl⟩
  rw [hxa, hxn] at hmem
  have p0 := pair_cell h.pairs rfl k hk
  rw [hxa, hxn] at p0
  obtain ⟨p0, p1⟩ := p0
  obtain ⟨hg1, hg2⟩ := h.pairs.own (k := g) rfl
  have wa : IntKind.i64.wrap ((xa : Int) + (n : Int)) = ((xa + n : Nat) : Int) := by rw [IntKind.wrap_i64]; omega
  have wb : IntKind.i64.wrap ((xn : Int) - (n : Int)) = ((xn - n : Nat) : Int) := by rw [IntKind.wrap_i64]; omega
  have hnx : n ≤ xn := by rw [← hxn]; exact hkn
  have z0 := World.ownsRow.frozenAt h.pairs (k * 2)
  have z1 := World.ownsRow.frozenAt h.pairs (k * 2 + 1)
  have zb := h.blk.free 2
  have HQ := Lib.hid (And.intro q1 (And.intro q2 (And.intro hxa (And.intro hxn hM))))
  clear h hi ht hM q1 q2 hxa hxn hN
  go_enter Try.func17, Try.ntmps17
  go_wp2_with fail
  refine (index_take (br + 1) _ L _ (by rw [← HN.out]; exact H.out.pairs.fr (by (repeat (first | (with_reducible exact Fr.refl _ _) | (with_reducible assumption) | (with_reducible exact Fr.of_nil (by assumption)) | (with_reducible refine Fr.drew ?_) | (with_reducible refine Fr.drewN ?_ _) | (with_reducible refine Fr.alloc ?_ _) | (with_reducible refine Fr.set ?_ _ _ (by first | (intros; omega) | (simp; done) | (simp; omega))) | (with_reducible refine Fr.via ?_ (by assumption)) | (with_reducible refine Fr.comp ?_ (by assumption)))))) (by have := HN.out; omega) w.heap.size (n : Int) (by simp)).mono ?_
  rw [HI.out]
  rintro e w1 ⟨rfl, f1⟩
  obtain ⟨_, _, _⟩ := f1.at (w.heap.size) (by first | assumption | omega | (simp; done) | (simp; omega))
  obtain ⟨_, _, _⟩ := f1.at (br) (by first | assumption | omega | (simp; done) | (simp; omega)); obtain ⟨_, _, _⟩ := f1.at (g) (by first | assumption | omega | (simp; done) | (simp; omega))
  go_upto_region 7 with fail
  go_region
  have p2 := (H.out.pairs.fr (w' := w1) (by (repeat (first | (with_reducible exact Fr.refl _ _) | (with_reducible assumption) | (with_reducible exact Fr.of_nil (by assumption)) | (with_reducible refine Fr.drew ?_) | (with_reducible refine Fr.drewN ?_ _) | (with_reducible refine Fr.alloc ?_ _) | (with_reducible refine Fr.set ?_ _ _ (by first | (intros; omega) | (simp; done) | (simp; omega))) | (with_reducible refine Fr.via ?_ (by assumption)) | (with_reducible refine Fr.comp ?_ (by assumption)))))).store (k := k) (xa + n, xn - n) rfl
  rw [HN.out] at p2
  have b2 : Blk (((w1.setCell ⟨g, k * 2, none⟩ (.int .i64 ((xa : Int) + (n : Int)))).setCell ⟨g, k * 2 + 1, none⟩ (.int .i64 ((xn - n : Nat) : Int))).drew) br #[.int .i64 (f : Int), .int .i64 (p : Int), .slice (some ⟨g, 0, none⟩) N cap] 50 := by
    have := H.out.blk
    rw [HN.out] at this
    exact (((f1.blk (this.alloc _) (fun q => q)).other (by simp; omega) _).other (by simp; omega) _).drew
  have fW : Fr (fun b => b = g) w (((w1.setCell ⟨g, k * 2, none⟩ (.int .i64 ((xa : Int) + (n : Int)))).setCell ⟨g, k * 2 + 1, none⟩ (.int .i64 ((xn - n : Nat) : Int))).drew) := by
    have fA : Fr (fun b => b = g) w w1 := Fr.of_nil (Fr.comp (Fr.alloc (Fr.refl _ _) _) f1)
    exact ((fA.set ⟨g, k * 2, none⟩ _ (fun _ => rfl)).set ⟨g, k * 2 + 1, none⟩ _ (fun _ => rfl)).drew
  have p2' : PairsAt (br + 1) (((w1.setCell ⟨g, k * 2, none⟩ (.int .i64 ((xa : Int) + (n : Int)))).setCell ⟨g, k * 2 + 1, none⟩ (.int .i64 ((xn - n : Nat) : Int))).drew) (.slice (some ⟨g, 0, none⟩) N cap) (L.set k (xa + n, xn - n)) := p2
  obtain ⟨W, hW⟩ : ∃ W, ((w1.setCell ⟨g, k * 2, none⟩ (.int .i64 ((xa : Int) + (n : Int)))).setCell ⟨g, k * 2 + 1, none⟩ (.int .i64 ((xn - n : Nat) : Int))).drew = W := ⟨_, rfl⟩
  rw [hW] at p2' b2 fW ⊢
  obtain ⟨e1, e2, e3, e4, e5⟩ := HQ.out
  rw [e3] at e1
  rw [e3, e4] at e2
  subst e1
  clear hW p2 wa wb z0 z1 zb p0 p1 c2 HQ f1
  have q0 := pair_cell p2' (by rw [List.length_set, HN.out]) k (by rw [List.length_set]; exact hk)
  simp at q0
  obtain ⟨_, q1⟩ := q0
  have c2 := b2.cell 2
  have zb := b2.free 2
  simp at c2
  have HB := Lib.hid (And.intro b2 (And.intro fW (And.intro p2' (And.intro e2 e5))))
  have hWl := b2.lt
  have hgl := fW.lt hg2
  clear b2 fW p2' e2 e5 e3 e4
  by_cases hx : xn = n
  · subst hx
    simp at q1
    have i3 : (k : Int) + 1 < 4611686018427387904 := by omega
    go_wp2_with fail
    refine (delete_any (br + 1) _ _ k _ HB.out.2.2.1 (by rw [List.length_set]; exact hk)).mono ?_
    rintro e w2 ⟨v', rfl, d1, d2, d3⟩
    obtain ⟨a2, cp2, rfl⟩ := d1.shape
    obtain ⟨lz, hlz⟩ : ∃ lz, ((L.set k (a + xn, xn - xn)).eraseIdx k).length = lz := ⟨_, rfl⟩
    rw [hlz] at d1 d2 ⊢
    clear hlz
    obtain ⟨v', hv'⟩ : ∃ v', v' = Value.slice a2 lz cp2 := ⟨_, rfl⟩
    rw [← hv'] at d1 d2
    obtain ⟨h1, h2, h3, h4, h5⟩ := HB.out
    have b2 := d3.blk h1 (fun q => by simp [Value.ownBlock] at q; omega)
    have z2 := b2.free 2
    have c22 := b2.cell 2
    simp at c22
    have b2l := b2.lt
    rw [List.eraseIdx_set_eq] at d1
    rw [if_pos trivial] at h4
    rw [← h4] at d1
    have fin : RoomAt (w2.setCell ⟨br, 2, none⟩ v') br f p v' M := ⟨b2.put (by simp), d1.other (fun q => by have := d1.own (k := br) q; omega) _, h5, hf, hp⟩
    have ff : Fr (fun b => b = br ∨ some g = some b) w (w2.setCell ⟨br, 2, none⟩ v') := (Fr.comp (h2.mono (fun b _ q => .inr (by rw [q]))) (d3.mono (fun b _ q => .inr q))).set _ _ (fun _ => .inl rfl)
    have HF := Lib.hid (And.intro fin (And.intro ff d2))
    clear fin ff d1 d2 d3 h1 h2 h3 h4 h5 HB
    subst hv'
    go_wp2
    go_ret2
    exact ⟨_, rfl, HF.out.1, HF.out.2.2, HF.out.2.1⟩
  · have dd : ¬ ((xn - n : Nat) : Int) = 0 := by omega
    have dd2 := decide_eq_false dd
    obtain ⟨h1, h2, h3, h4, h5⟩ := HB.out
    rw [if_neg hx] at h4
    rw [← h4] at h3
    rw [← HN.out] at h1 h3 
    have HF := Lib.hid (And.intro (RoomAt.mk h1 h3 h5 hf hp) h2)
    clear HB h1 h2 h3 h4 h5
    go_wp2
    go_ret2
    exact ⟨_, rfl, HF.out.1, rfl, HF.out.2.mono (fun b _ q => .inr (by rw [q]; rfl))⟩
end
end Go.Proofs.Ytjcnbfiholcjkaa
