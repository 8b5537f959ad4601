/-
  The walks of the laws of layer 2.
-/
import Derived.Test.YtjmccfpkmnpgfaaArena
namespace Go.Proofs.Ytjmccfpkmnpgfaa
set_option linter.unusedSimpArgs false
set_option linter.unusedVariables false
open Go.RowKit

theorem awake_any (w : World) : Calls Try.prog 7 #[] w fun e w' => e = .returned (.bool true) ∧ Fr Nil w w' := by
  have e1 : lde 2 1 = 0 := by decide
  have e2 : lde 2 2 = 1 := by decide
  go_enter Try.func7, Try.ntmps7
  go_wp2_with fail
  refine (new_in 2 _ (by decide) (by decide)).mono ?_
  rintro e w1 ⟨ba, bw, rfl, h1, b1, b2, f1⟩
  have h1 : Arena w1 ba bw [0, 0] 0 := h1
  go_wp2_with fail
  refine (store_any ba bw [0, 0] 0 1 7 _ h1 (by decide)).mono ?_
  rintro e w2 ⟨rfl, h2, f2⟩
  have h2 : Arena w2 ba bw [0, 7] 1 := h2
  go_wp2_with fail
  refine (load_any ba bw [0, 7] 1 2 _ h2 (by decide)).mono ?_
  rintro e w3 ⟨rfl, h3, f3⟩
  have h3 : Arena w3 ba bw [0, 7] 1 := h3
  have hf : Fr Nil w w3 := f1.trans (f2.trans f3 (by omega)) (fun k hk q => by omega)
  clear h1 h2 f1 f2 f3
  go_wp2_with (first | (go_at_call 11; refine (uses_any _ _ _ _ _ h3).mono ?_; rintro e w4 ⟨rfl, rfl⟩) | (go_at_call 12; refine (len_any _ _ _ _ _ h3).mono ?_; rintro e w4 ⟨rfl, rfl⟩))
  go_ret
  exact ⟨rfl, hf⟩

theorem fresh_any (n k x : Int) (w : World) : Calls Try.prog 6 #[.int .i64 n, .int .i64 k, .int .i64 x] w fun e w' => e = .returned (.bool true) ∧ Fr Nil w w' := by
  by_cases hn : 1 ≤ n ∧ n ≤ 5000
  · obtain ⟨hn1, hn2⟩ := hn
    obtain ⟨m, rfl⟩ := Int.eq_ofNat_of_zero_le (show 0 ≤ n by omega)
    go_enter Try.func6, Try.ntmps6
    go_wp2_with fail
    refine (awake_any _).mono ?_
    rintro e w0 ⟨rfl, f0⟩
    go_wp2_with fail
    refine (new_in m _ (by omega) (by omega)).mono ?_
    rintro e w1 ⟨ba, bw, rfl, h1, b1, b2, f1⟩
    go_wp2_with fail
    refine (new_in m _ (by omega) (by omega)).mono ?_
    rintro e w2 ⟨ca, cw, rfl, h2, c1, c2, f2⟩
    rw [Int.toNat_natCast] at h1 h2
    have g1 : Arena w2 ba bw (List.replicate m 0) 0 := ⟨f2.blk h1.box (by simp [Nil]), f2.blk h1.words (by simp [Nil])⟩
    have hb := h1.box.lt
    have hc := h1.words.lt
    go_wp2_with (first | (go_at_call 11; refine (uses_any _ _ _ _ _ g1).mono ?_; rintro e w4 ⟨rfl, rfl⟩))
    refine (store_any ba bw _ 0 k x _ g1 (by decide)).mono ?_
    rintro e w3 ⟨rfl, h3, f3⟩
    have g2 : Arena w3 ca cw (List.replicate m 0) 0 := ⟨f3.blk h2.box (by omega), f3.blk h2.words (by omega)⟩
    go_wp2_with fail
    refine (words_any ca cw _ 0 _ g2 (by simp; omega) (by simp; omega)).mono ?_
    rintro e w4 ⟨b', cap, rfl, hh, hb', f4⟩
    have g4 : Arena w4 ca cw (List.replicate m 0) 0 := ⟨f4.blk g2.box (by simp [Nil]), f4.blk g2.words (by simp [Nil])⟩
    have hf : Fr Nil w w4 := ((f0.trans f1 (fun _ _ q => q)).trans f2 (fun _ _ q => q)).trans (f3.trans f4 (fun _ _ q => q.elim)) (fun j hj q => by have := f0.size; omega)
    rw [List.length_replicate] 
    have hz : ∀ j, j < m → w4.cell? ⟨b', j, none⟩ = some (.int .i64 0) := by
      intro j hj
      have := hh.cell (k := j) (by simpa using hj)
      rw [this]; simp [nth, hj]
    clear h1 h2 g1 h3 g2 f0 f1 f2 f3 f4 hh hb hc hb' b1 b2 c1 c2
    go_wp2
    go_loop [12] (fun i => ∃ j : Nat, j ≤ m ∧ i = .int .i64 j) (fun i => m - (intOf i).toNat)
    case atStart => exact ⟨0, Nat.zero_le _, rfl⟩
    case round =>
      obtain ⟨j, hj, rfl⟩ := hrel
      by_cases hlt : j < m
      · have hzj := hz j hlt
        clear hz
        go_wp2
        go_round
        case rel => exact ⟨j + 1, by omega, by go_num⟩
        case measure => simp [intOf]; omega
      · have : j = m := by omega
        subst this
        clear hz
        go_wp2_with (first | (go_at_call 11; refine (uses_any _ _ _ _ _ g4).mono ?_; rintro e w5 ⟨rfl, rfl⟩))
        go_ret
        exact ⟨rfl, hf⟩
  · have hn' : n < 1 ∨ 5000 < n := by omega
    clear hn
    rcases hn' with hn | hn
    all_goals
      go_enter Try.func6, Try.ntmps6
      go_wp2_with fail
      refine (awake_any _).mono ?_
      rintro e w0 ⟨rfl, f0⟩
      go_wp2
      go_ret
      exact ⟨rfl, f0⟩
theorem range_any (n : Int) (v : Value) (zs : List Int) (w : World) (hv : RowInts w v zs) (hzs : zs.length ≤ 9223372036854775807) :
    Calls Try.prog 3 #[.int .i64 n, v] w fun e w' => e = .returned (.bool true) ∧ Fr Nil w w' := by
  obtain ⟨a, cap, rfl, hrow⟩ := hv
  by_cases hn : 1 ≤ n ∧ n ≤ 3000
  · obtain ⟨hn1, hn2⟩ := hn
    obtain ⟨m, rfl⟩ := Int.eq_ofNat_of_zero_le (show 0 ≤ n by omega)
    by_cases h100 : zs.length ≤ 100
    · go_enter Try.func3, Try.ntmps3
      go_wp2_with fail
      refine (awake_any _).mono ?_
      rintro e w0 ⟨rfl, f0⟩
      go_wp2_with fail
      refine (new_in m _ (by omega) (by omega)).mono ?_
      rintro e w1 ⟨ba, bw, rfl, h1, b1, b2, f1⟩
      rw [Int.toNat_natCast] at h1
      have hl1 : Hid ((List.replicate m (0 : Int)).length = m) := List.length_replicate
      have hf1 : Fr Nil w w1 := f0.trans f1 (fun _ _ q => q)
      have hb1 : w.heap.size ≤ ba := Nat.le_trans f0.size b1
      have hb2 : w.heap.size ≤ bw := Nat.le_trans f0.size b2
      clear f0 f1 b1 b2
      go_wp2_with fail
      go_loopw [7, 8] (fun us i wr => ∃ (j : Nat) (l : List Int) (u : Nat), j ≤ zs.length ∧ u ≤ 2 * j ∧ i = .int .i64 j ∧ us = .int .i64 u ∧ Hid (l.length = m) ∧ Arena wr ba bw l u ∧ Fr Nil w wr) (fun _ i _ => zs.length - (intOf i).toNat)
      case atStart => exact ⟨0, _, 0, by omega, by omega, rfl, rfl, hl1, h1, hf1⟩
      case round =>
        obtain ⟨j, l, u, hj, hu, rfl, rfl, hl, ha, hf⟩ := hrel
        clear h1 hf1 hl1
        by_cases hlt : j < zs.length
        · obtain ⟨b, off, rfl, hcell⟩ := hrow (by omega)
          have hc := hcell j hlt
          have hcr := hf.cell hc (by simp [Nil])
          have hbw : b < w.heap.size := World.block_lt_of_cell? _ _ hc
          clear hcell hc hrow
          obtain ⟨x, hx⟩ : ∃ x, x = nth zs j := ⟨_, rfl⟩
          rw [← hx] at hcr
          clear hx
          by_cases hx0 : 0 ≤ x
          · by_cases hxm : x < m
            · have e1 : lde m x = 0 := by simp [lde, inR_yes hx0 hxm]
              have e2 : hit m x = 1 := by simp [hit, inR_yes hx0 hxm]
              go_wp2_with fail
              refine (load_n ba bw l m u x wr hl ha (by omega)).mono ?_
              rintro e w2 ⟨rfl, h2, f2⟩
              have hcr2 := f2.cell hcr (by simp; omega)
              rw [e2] at h2
              clear hcr
              go_wp2_with fail
              refine (store_n ba bw l m (u + 1) x j w2 hl h2 (by omega)).mono ?_
              rintro e w3 ⟨rfl, h3, f3⟩
              rw [e2] at h3
              have hl3 := stl_hid hl x j
              have hf3 : Fr Nil w w3 := (hf.trans f2 (by omega)).trans f3 (by omega)
              clear e2 h2 f2 f3 ha hf hl hcr2
              go_wp2
              go_roundw
              case rel => exact ⟨j + 1, _, u + 1 + 1, by omega, by omega, by go_num, by go_num, hl3, h3, hf3⟩
              case measure => simp [intOf]; omega
            · have hno : inR m x = false := inR_no (.inr (by omega))
              have e1 : lde m x = 1 := by simp [lde, hno]
              have e2 : hit m x = 0 := by simp [hit, hno]
              clear hno
              go_wp2_with fail
              refine (load_n ba bw l m u x wr hl ha (by omega)).mono ?_
              rintro e w2 ⟨rfl, h2, f2⟩
              have hcr2 := f2.cell hcr (by simp; omega)
              rw [e2] at h2
              clear hcr
              go_wp2_with fail
              refine (store_n ba bw l m (u + 0) x j w2 hl h2 (by omega)).mono ?_
              rintro e w3 ⟨rfl, h3, f3⟩
              rw [e2] at h3
              have hl3 := stl_hid hl x j
              have hf3 : Fr Nil w w3 := (hf.trans f2 (by omega)).trans f3 (by omega)
              clear e2 h2 f2 f3 ha hf hl hcr2
              go_wp2
              go_roundw
              case rel => exact ⟨j + 1, _, u, by omega, by omega, by go_num, by go_num, hl3, h3, hf3⟩
              case measure => simp [intOf]; omega
          · have hno : inR m x = false := inR_no (.inl (by omega))
            have e1 : lde m x = 1 := by simp [lde, hno]
            have e2 : hit m x = 0 := by simp [hit, hno]
            clear hno
            go_wp2_with fail
            refine (load_n ba bw l m u x wr hl ha (by omega)).mono ?_
            rintro e w2 ⟨rfl, h2, f2⟩
            have hcr2 := f2.cell hcr (by simp; omega)
            rw [e2] at h2
            clear hcr
            go_wp2_with fail
            refine (store_n ba bw l m (u + 0) x j w2 hl h2 (by omega)).mono ?_
            rintro e w3 ⟨rfl, h3, f3⟩
            rw [e2] at h3
            have hl3 := stl_hid hl x j
            have hf3 : Fr Nil w w3 := (hf.trans f2 (by omega)).trans f3 (by omega)
            clear e2 h2 f2 f3 ha hf hl hcr2
            go_wp2
            go_roundw
            case rel => exact ⟨j + 1, _, u, by omega, by omega, by go_num, by go_num, hl3, h3, hf3⟩
            case measure => simp [intOf]; omega
        · have : j = zs.length := by omega
          subst this
          go_wp2_with (first | (go_at_call 11; refine (uses_any _ _ _ _ _ ha).mono ?_; rintro e w5 ⟨rfl, rfl⟩) | (go_at_call 12; refine (len_n _ _ _ _ _ _ hl ha).mono ?_; rintro e w5 ⟨rfl, rfl⟩))
          go_ret
          exact ⟨rfl, hf⟩
    · go_enter Try.func3, Try.ntmps3
      go_wp2_with fail
      refine (awake_any _).mono ?_
      rintro e w0 ⟨rfl, f0⟩
      go_wp2
      go_ret
      exact ⟨rfl, f0⟩
  · have hn' : n < 1 ∨ 3000 < n := by omega
    clear hn
    rcases hn' with hn | hn
    all_goals
      go_enter Try.func3, Try.ntmps3
      go_wp2_with fail
      refine (awake_any _).mono ?_
      rintro e w0 ⟨rfl, f0⟩
      go_wp2
      go_ret
      exact ⟨rfl, f0⟩
end Go.Proofs.Ytjmccfpkmnpgfaa
