/-
  Contracts of package extent: join. No conditions but sizes.
-/
import Derived.Test.YtjcnbfiholcjkaaExt3
namespace Go.Proofs.Ytjcnbfiholcjkaa
set_option linter.unusedSimpArgs false
set_option linter.unusedVariables false
open Go.RowKit Go.Shelf

/-- A room whose runs may still touch. -/
structure RoomW (w : World) (br f p : Nat) (v : Value) (L : List (Nat × Nat)) : Prop where
  blk : Blk w br #[.int .i64 (f : Int), .int .i64 (p : Int), v] 50
  pairs : PairsAt (br + 1) w v L
  small : ∀ x ∈ L, x.1 + x.2 ≤ 1000000
  len : L.length ≤ 1000000
theorem joinL_eq {L : List (Nat × Nat)} {k : Nat} (hk : k + 1 < L.length) : joinL k L = if L[k].1 + L[k].2 = L[k + 1].1 then (L.set k (L[k].1, L[k].2 + L[k + 1].2)).eraseIdx (k + 1) else L := by
  unfold joinL
  rw [List.drop_eq_getElem_cons (i := k) (by omega), List.drop_eq_getElem_cons (i := k + 1) hk]
  simp only []
  split
  · rw [List.eraseIdx_eq_take_drop_succ, List.take_succ_eq_append_getElem (by rw [List.length_set]; omega), List.getElem_set_self, List.take_set_of_le (by omega), List.drop_set_of_lt (by omega), List.append_assoc]
    rfl
  · rfl
theorem joinL_short {L : List (Nat × Nat)} {k : Nat} (hk : L.length ≤ k + 1) : joinL k L = L := by
  unfold joinL
  rcases h : L.drop k with _ | ⟨x, _ | ⟨y, r⟩⟩
  · rfl
  · rfl
  · have := congrArg List.length h
    simp at this
    omega
theorem joinL_small {L : List (Nat × Nat)} (k : Nat) (h : ∀ x ∈ L, x.1 + x.2 ≤ 1000000) : ∀ x ∈ joinL k L, x.1 + x.2 ≤ 1000000 := by
  rcases Nat.lt_or_ge (k + 1) L.length with c | c
  · rw [joinL_eq c]
    split
    · rename_i e
      intro x hx
      rcases List.mem_or_eq_of_mem_set (List.mem_of_mem_eraseIdx hx) with q | q
      · exact h x q
      · have := h _ (List.getElem_mem c)
        rw [q]
        simp only []
        omega
    · exact h
  · rw [joinL_short c]; exact h
theorem joinL_len (k : Nat) (L : List (Nat × Nat)) : (joinL k L).length ≤ L.length := by
  rcases Nat.lt_or_ge (k + 1) L.length with c | c
  · rw [joinL_eq c]
    split
    · rw [List.length_eraseIdx]; split <;> simp
    · exact Nat.le_refl _
  · rw [joinL_short c]; exact Nat.le_refl _
section
variable (br f p : Nat) (v : Value) (L : List (Nat × Nat)) (w : World)
theorem join_below (h : RoomW w br f p v L) (k : Int) (hk : k < 0) : Calls Try.prog 28 #[.pointer (some ⟨br, 0, none⟩), .int .i64 k] w fun e w' => e = .returned (.tuple #[]) ∧ Fr Nil w w' := by
  have dd := decide_eq_true hk
  clear h
  go_enter Try.func28, Try.ntmps28
  go_wp2_with fail
  go_quiet (fail)
  go_wp2
  (try simp only [Exit.inBlock, Exit.then])
  refine bodyPost_ret (results_none rfl _ _ _) rfl ?_
  exact ⟨rfl, by (repeat (first | (with_reducible exact Fr.refl _ _) | (with_reducible assumption) | (with_reducible exact Fr.of_nil (by assumption)) | (with_reducible refine Fr.drew ?_) | (with_reducible refine Fr.drewN ?_ _) | (with_reducible refine Fr.alloc ?_ _) | (with_reducible refine Fr.set ?_ _ _ (by first | (intros; omega) | (simp; done) | (simp; omega))) | (with_reducible refine Fr.via ?_ (by assumption)) | (with_reducible refine Fr.comp ?_ (by assumption))))⟩
theorem join_short (h : RoomW w br f p v L) (k : Nat) (hk : L.length ≤ k + 1) (hk2 : k ≤ 1000000) : Calls Try.prog 28 #[.pointer (some ⟨br, 0, none⟩), .int .i64 (k : Int)] w fun e w' => e = .returned (.tuple #[]) ∧ Fr Nil w w' := by
  have c2 := h.blk.cell 2
  simp at c2
  have hbr := h.blk.lt
  obtain ⟨a0, c0, e0⟩ := h.pairs.shape
  subst e0
  have n0 : ¬ (k : Int) < 0 := by omega
  have n1 : (L.length : Int) ≤ (k : Int) + 1 := by omega
  have d0 := decide_eq_false n0
  have d1 := decide_eq_true n1
  clear h
  go_enter Try.func28, Try.ntmps28
  go_wp2_with fail
  go_quiet (fail)
  go_wp2
  (try simp only [Exit.inBlock, Exit.then])
  refine bodyPost_ret (results_none rfl _ _ _) rfl ?_
  exact ⟨rfl, by (repeat (first | (with_reducible exact Fr.refl _ _) | (with_reducible assumption) | (with_reducible exact Fr.of_nil (by assumption)) | (with_reducible refine Fr.drew ?_) | (with_reducible refine Fr.drewN ?_ _) | (with_reducible refine Fr.alloc ?_ _) | (with_reducible refine Fr.set ?_ _ _ (by first | (intros; omega) | (simp; done) | (simp; omega))) | (with_reducible refine Fr.via ?_ (by assumption)) | (with_reducible refine Fr.comp ?_ (by assumption))))⟩
theorem join_apart (h : RoomW w br f p v L) (k : Nat) (hk : k + 1 < L.length) (hne : ¬ L[k].1 + L[k].2 = L[k + 1].1) : Calls Try.prog 28 #[.pointer (some ⟨br, 0, none⟩), .int .i64 (k : Int)] w fun e w' => e = .returned (.tuple #[]) ∧ Fr Nil w w' := by
  have c2 := h.blk.cell 2
  simp at c2
  have hbr := h.blk.lt
  have hlen := h.len
  obtain ⟨g, cap, rfl⟩ := h.pairs.form (by omega)
  obtain ⟨p0, p1⟩ := pair_cell h.pairs rfl k (by omega)
  obtain ⟨p2, p3⟩ := pair_cell h.pairs rfl (k + 1) hk
  have s1 := h.small _ (List.getElem_mem (l := L) (n := k) (by omega))
  obtain ⟨x1, e1⟩ : ∃ x1, L[k].1 = x1 := ⟨_, rfl⟩
  obtain ⟨x2, e2⟩ : ∃ x2, L[k].2 = x2 := ⟨_, rfl⟩
  obtain ⟨y1, e3⟩ : ∃ y1, L[k + 1].1 = y1 := ⟨_, rfl⟩
  rw [e1, e2, e3] at hne
  rw [e1] at p0
  rw [e2] at p1
  rw [e3] at p2
  rw [e1, e2] at s1
  obtain ⟨N, hN⟩ : ∃ N, L.length = N := ⟨_, rfl⟩
  rw [hN] at c2 hk hlen
  have htn : ((k : Int) + 1).toNat = k + 1 := by omega
  have n0 : ¬ (k : Int) < 0 := by omega
  have n1 : ¬ (N : Int) ≤ (k : Int) + 1 := by omega
  have d0 := decide_eq_false n0
  have d1 := decide_eq_false n1
  have j0 : (0 : Int) ≤ (k : Int) + 1 := by omega
  have j1 : (k : Int) + 1 < (N : Int) := by omega
  have j2 : (k : Int) < (N : Int) := by omega
  have j3 : (0 : Int) ≤ (k : Int) := by omega
  have ws : IntKind.i64.wrap ((x1 : Int) + (x2 : Int)) = (x1 : Int) + (x2 : Int) := by rw [IntKind.wrap_i64]; omega
  have n2 : ¬ (x1 : Int) + (x2 : Int) = (y1 : Int) := by omega
  have d2 := decide_eq_false n2
  clear h e1 e2 e3 hN p3 hne
  go_enter Try.func28, Try.ntmps28
  go_wp2_with fail
  go_quiet (fail)
  go_wp2
  (try simp only [Exit.inBlock, Exit.then])
  refine bodyPost_ret (results_none rfl _ _ _) rfl ?_
  exact ⟨rfl, by (repeat (first | (with_reducible exact Fr.refl _ _) | (with_reducible assumption) | (with_reducible exact Fr.of_nil (by assumption)) | (with_reducible refine Fr.drew ?_) | (with_reducible refine Fr.drewN ?_ _) | (with_reducible refine Fr.alloc ?_ _) | (with_reducible refine Fr.set ?_ _ _ (by first | (intros; omega) | (simp; done) | (simp; omega))) | (with_reducible refine Fr.via ?_ (by assumption)) | (with_reducible refine Fr.comp ?_ (by assumption))))⟩
set_option maxRecDepth 100000 in
set_option maxHeartbeats 4000000 in
theorem join_meet (h : RoomW w br f p v L) (k : Nat) (hk : k + 1 < L.length) (heq : L[k].1 + L[k].2 = L[k + 1].1) : Calls Try.prog 28 #[.pointer (some ⟨br, 0, none⟩), .int .i64 (k : Int)] w fun e w' => ∃ v', e = .returned (.tuple #[]) ∧ RoomW w' br f p v' (joinL k L) ∧ v'.ownBlock = v.ownBlock ∧ Fr (TS br v) w w' := by
  have c2 := h.blk.cell 2
  have zb := h.blk.free 2
  simp at c2
  have hbr := h.blk.lt
  have hlen := h.len
  have hsmall := joinL_small k h.small
  have hjl := joinL_len k L
  have hjq := joinL_eq hk
  rw [if_pos heq] at hjq
  obtain ⟨g, cap, rfl⟩ := h.pairs.form (by omega)
  obtain ⟨hg1, hg2⟩ := h.pairs.own (k := g) rfl
  obtain ⟨p0, p1⟩ := pair_cell h.pairs rfl k (by omega)
  obtain ⟨p2, p3⟩ := pair_cell h.pairs rfl (k + 1) hk
  have z1 := World.ownsRow.frozenAt h.pairs (k * 2 + 1)
  have s1 := h.small _ (List.getElem_mem (l := L) (n := k) (by omega))
  have s2 := h.small _ (List.getElem_mem hk)
  have hst := h.pairs.store2 (L[k].2 + L[k + 1].2) rfl (k := k) (by omega)
  obtain ⟨M, hM⟩ : ∃ M, L.set k (L[k].1, L[k].2 + L[k + 1].2) = M := ⟨_, rfl⟩
  rw [hM] at hst hjq
  have hMl : k + 1 < M.length := by rw [← hM, List.length_set]; exact hk
  clear hM
  obtain ⟨x1, e1⟩ : ∃ x1, L[k].1 = x1 := ⟨_, rfl⟩
  obtain ⟨x2, e2⟩ : ∃ x2, L[k].2 = x2 := ⟨_, rfl⟩
  obtain ⟨y1, e3⟩ : ∃ y1, L[k + 1].1 = y1 := ⟨_, rfl⟩
  obtain ⟨y2, e4⟩ : ∃ y2, L[k + 1].2 = y2 := ⟨_, rfl⟩
  rw [e1, e2, e3] at heq
  rw [e1] at p0
  rw [e2] at p1
  rw [e3] at p2
  rw [e4] at p3
  rw [e1, e2] at s1
  rw [e3, e4] at s2
  rw [e2, e4] at hst
  have hblk := h.blk
  clear h e1 e2 e3 e4
  obtain ⟨N, hN⟩ : ∃ N, L.length = N := ⟨_, rfl⟩
  have hN' := hN
  have hown : (Value.slice (some ⟨g, 0, none⟩) L.length cap).ownBlock = some g := rfl
  rw [hN] at c2 hk hlen hst hblk ⊢
  have htn : ((k : Int) + 1).toNat = k + 1 := by omega
  have n0 : ¬ (k : Int) < 0 := by omega
  have n1 : ¬ (N : Int) ≤ (k : Int) + 1 := by omega
  have d0 := decide_eq_false n0
  have d1 := decide_eq_false n1
  have j0 : (0 : Int) ≤ (k : Int) + 1 := by omega
  have j1 : (k : Int) + 1 < (N : Int) := by omega
  have j2 : (k : Int) < (N : Int) := by omega
  have j3 : (0 : Int) ≤ (k : Int) := by omega
  have ws : IntKind.i64.wrap ((x1 : Int) + (x2 : Int)) = (x1 : Int) + (x2 : Int) := by rw [IntKind.wrap_i64]; omega
  have wt : IntKind.i64.wrap ((x2 : Int) + (y2 : Int)) = (x2 : Int) + (y2 : Int) := by rw [IntKind.wrap_i64]; omega
  have n2 : (x1 : Int) + (x2 : Int) = (y1 : Int) := by omega
  have d2 := decide_eq_true n2
  have key : ∀ n : Nat, Fr (fun b => b = g) w ((w.drewN n).setCell ⟨g, k * 2 + 1, none⟩ (.int .i64 ((x2 : Int) + (y2 : Int)))) ∧ Blk ((w.drewN n).setCell ⟨g, k * 2 + 1, none⟩ (.int .i64 ((x2 : Int) + (y2 : Int)))) br #[.int .i64 (f : Int), .int .i64 (p : Int), .slice (some ⟨g, 0, none⟩) N cap] 50 ∧ PairsAt (br + 1) ((w.drewN n).setCell ⟨g, k * 2 + 1, none⟩ (.int .i64 ((x2 : Int) + (y2 : Int)))) (.slice (some ⟨g, 0, none⟩) N cap) M := fun n => by
    have fA : Fr (fun b => b = g) w w := Fr.refl _ _
    have fW : Fr (fun b => b = g) w ((w.drewN n).setCell ⟨g, k * 2 + 1, none⟩ (.int .i64 ((x2 : Int) + (y2 : Int)))) := (fA.drewN n).set ⟨g, k * 2 + 1, none⟩ _ (fun _ => rfl)
    exact ⟨fW, fW.blk hblk (by omega), hst⟩
  have KEY := Lib.hid key
  clear key
  have HJ := Lib.hid (And.intro hsmall (And.intro hjl hjq))
  clear hsmall hjl hjq hst hblk hN heq
  go_enter Try.func28, Try.ntmps28
  go_wp2_with fail
  go_quiet (fail)
  go_wp2_with fail
  go_region
  obtain ⟨W, hW⟩ : ∃ W, W = (w.drewN (nq + 1)).setCell ⟨g, k * 2 + 1, none⟩ (.int .i64 ((x2 : Int) + (y2 : Int))) := ⟨_, rfl⟩
  rw [← hW]
  obtain ⟨k1, k2, k3⟩ := KEY.out (nq + 1)
  rw [← hW] at k1 k2 k3
  clear hW KEY p0 p1 p2 p3 z1 c2 zb d0 d1 d2
  have c2 := k2.cell 2
  have zb := k2.free 2
  simp at c2
  have hWl := k2.lt
  have hd := delete_any (br + 1) _ M (k + 1) W k3 hMl
  rw [show (((k + 1 : Nat) : Int) + 1) = (k : Int) + 2 by omega, show (((k + 1 : Nat) : Int)) = (k : Int) + 1 by omega] at hd
  have HB := Lib.hid (And.intro k1 (And.intro k2 hd))
  clear k1 k2 k3 hd
  go_wp2_with fail
  refine HB.out.2.2.mono ?_
  rintro e w2 ⟨v', rfl, d1, d2, d3⟩
  obtain ⟨a2, cp2, rfl⟩ := d1.shape
  obtain ⟨lz, hlz⟩ : ∃ lz, (M.eraseIdx (k + 1)).length = lz := ⟨_, rfl⟩
  rw [hlz] at d1 d2 ⊢
  clear hlz
  obtain ⟨v', hv'⟩ : ∃ v', v' = Value.slice a2 lz cp2 := ⟨_, rfl⟩
  rw [← hv'] at d1 d2
  obtain ⟨h1, h2, _⟩ := HB.out
  have b2 := d3.blk h2 (fun q => by simp [Value.ownBlock] at q; omega)
  have z2 := b2.free 2
  have c22 := b2.cell 2
  simp at c22
  have b2l := b2.lt
  rw [← HJ.out.2.2] at d1
  have fin : RoomW (w2.setCell ⟨br, 2, none⟩ v') br f p v' (joinL k L) := ⟨b2.put (by simp), d1.other (fun q => by have := d1.own (k := br) q; omega) _, HJ.out.1, by have := HJ.out.2.1; omega⟩
  have ff : Fr (fun b => b = br ∨ some g = some b) w (w2.setCell ⟨br, 2, none⟩ v') := (Fr.comp (h1.mono (fun b _ q => .inr (by rw [q]))) (d3.mono (fun b _ q => .inr q))).set _ _ (fun _ => .inl rfl)
  have HF := Lib.hid (And.intro fin (And.intro ff d2))
  clear fin ff d1 d2 d3 h1 h2 HB
  subst hv'
  go_wp2
  go_end0
  exact ⟨_, rfl, HF.out.1, HF.out.2.2, HF.out.2.1⟩
theorem join_any (h : RoomW w br f p v L) (k : Int) (hk : k ≤ 1000000) : Calls Try.prog 28 #[.pointer (some ⟨br, 0, none⟩), .int .i64 k] w fun e w' => ∃ v', e = .returned (.tuple #[]) ∧ RoomW w' br f p v' (joinI k L) ∧ v'.ownBlock = v.ownBlock ∧ Fr (TS br v) w w' := by
  have same : ∀ w', Fr Nil w w' → RoomW w' br f p v L := fun w' f => ⟨f.blk h.blk (fun q => q), h.pairs.fr f, h.small, h.len⟩
  unfold joinI
  by_cases c : k < 0
  · rw [if_pos c]
    refine (join_below br f p v L w h k c).mono ?_
    rintro e w' ⟨rfl, f⟩
    exact ⟨v, rfl, same _ f, rfl, f.of_nil⟩
  · rw [if_neg c]
    obtain ⟨m, rfl⟩ := Int.eq_ofNat_of_zero_le (by omega : 0 ≤ k)
    rw [Int.toNat_natCast]
    rcases Nat.lt_or_ge (m + 1) L.length with d | d
    · by_cases e : L[m].1 + L[m].2 = L[m + 1].1
      · exact join_meet br f p v L w h m d e
      · rw [joinL_eq d, if_neg e]
        refine (join_apart br f p v L w h m d e).mono ?_
        rintro e w' ⟨rfl, f⟩
        exact ⟨v, rfl, same _ f, rfl, f.of_nil⟩
    · rw [joinL_short d]
      refine (join_short br f p v L w h m d (by omega)).mono ?_
      rintro e w' ⟨rfl, f⟩
      exact ⟨v, rfl, same _ f, rfl, f.of_nil⟩
end
end Go.Proofs.Ytjcnbfiholcjkaa
