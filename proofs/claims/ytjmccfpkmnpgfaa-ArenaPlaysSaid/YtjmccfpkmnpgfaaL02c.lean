/-
  The walks of the laws of layer 2: ArenaPlays, ArenaKeeps.
-/
import Derived.Test.YtjmccfpkmnpgfaaL02b
import Derived.Deep.RegionWith
import Derived.Deep.RegionHeld3
import Derived.Deep.DrawnRows
namespace Go.Proofs.Ytjmccfpkmnpgfaa
set_option linter.unusedSimpArgs false
set_option linter.unusedVariables false
open Go.RowKit
attribute [local go_sem ↓] Go.wp_at_zero Go.wp_at_succ

theorem Arena.drewD {w : World} {ba bw : Nat} {l : List Int} {u : Nat} (h : Arena w ba bw l u) : Arena w.drew ba bw l u := ⟨h.box, h.words⟩
theorem RArena.drewD {w : World} {ba bw : Nat} {l : List Int} {u : Nat} (h : RArena w ba bw l u) : RArena w.drew ba bw l u := ⟨h.box, h.words⟩
theorem RArena.fr {S : Nat → Prop} {w w1 : World} {ba bw : Nat} {l : List Int} {u : Nat} (h : RArena w ba bw l u) (f : Fr S w w1) (h1 : ¬ S ba) (h2 : ¬ S bw) : RArena w1 ba bw l u := ⟨f.blk h.box h1, f.blk h.words h2⟩
theorem rdo_n (ba bw : Nat) (l : List Int) (n u : Nat) (x : Act3) (w : World) (hl : Hid (l.length = n)) (ha : RArena w ba bw l u) (hn : n ≤ 65536) (hu : u < 4611686018427387904) :
    Calls Try.prog 15 #[.pointer (some ⟨ba, 0, none⟩), .agg #[.int .i64 x.kind, .int .i64 x.at_, .int .i64 x.word]] w fun e w' =>
      e = .returned (.agg #[.int .i64 (doV l x), .int .i64 (lde n x.at_)]) ∧ RArena w' ba bw (doL l x) (u + hit n x.at_) ∧ Fr (fun b => b = ba ∨ b = bw) w w' := by
  have h := rdo_any ba bw l u x w ha (by rw [hl.out]; exact hn) hu
  rw [hl.out] at h; exact h

set_option maxHeartbeats 2000000 in
theorem plays_any (n : Int) (v : Value) (zs : List Act3) (w : World) (hv : RowActs w v zs) (hzs : zs.length ≤ 9223372036854775807) :
    Calls Try.prog 4 #[.int .i64 n, v] w fun e w' => e = .returned (.bool true) ∧ Fr Nil w w' := by
  obtain ⟨a, cap, rfl, hrow⟩ := hv
  by_cases hn : 1 ≤ n ∧ n ≤ 5000
  · obtain ⟨hn1, hn2⟩ := hn
    obtain ⟨m, rfl⟩ := Int.eq_ofNat_of_zero_le (show 0 ≤ n by omega)
    by_cases h200 : zs.length ≤ 200
    · have d1 : decide (5000 < (m : Int)) = false := by simp; omega
      go_enter Try.func4, Try.ntmps4
      go_wp2_with fail
      refine (awake_any _).mono ?_
      rintro e w0 ⟨rfl, f0⟩
      go_wp2_with fail
      refine (new_in m _ (by omega) (by omega)).mono ?_
      rintro e w1 ⟨ba, bw, rfl, h1, b1, b2, f1⟩
      go_wp2_with fail
      refine (rnew_in m _ (by omega) (by omega)).mono ?_
      rintro e w2 ⟨ca, cw, rfl, h2, c1, c2, f2⟩
      rw [Int.toNat_natCast] at h1 h2
      have g1 := h1.fr f2 (by simp [Nil]) (by simp [Nil])
      have hl1 : Hid ((List.replicate m (0 : Int)).length = m) := List.length_replicate
      have hf2 : Fr Nil w w2 := (f0.trans f1 (fun _ _ q => q)).trans f2 (fun _ _ q => q)
      have hb1 : w.heap.size ≤ ba := Nat.le_trans f0.size b1
      have hb2 : w.heap.size ≤ bw := Nat.le_trans f0.size b2
      have hc1 : ba < ca := Nat.lt_of_lt_of_le h1.box.lt c1
      have hc2 : ba < cw := Nat.lt_of_lt_of_le h1.box.lt c2
      have hc3 : bw < ca := Nat.lt_of_lt_of_le h1.words.lt c1
      have hc4 : bw < cw := Nat.lt_of_lt_of_le h1.words.lt c2
      clear f0 f1 b1 b2 f2 h1 c1 c2
      go_wp2
      go_loopw [9] (fun i wr => ∃ (j : Nat) (l : List Int) (u : Nat), j ≤ zs.length ∧ u ≤ j ∧ i = .int .i64 j ∧ Hid (l.length = m) ∧ Arena wr ba bw l u ∧ RArena wr ca cw l u ∧ Fr Nil w wr) (fun i _ => zs.length - (intOf i).toNat)
      case atStart => exact ⟨0, _, 0, by omega, by omega, rfl, hl1, g1, h2, hf2⟩
      case round =>
        obtain ⟨j, l, u, hj, hu, rfl, hl, ha, hr, hf⟩ := hrel
        clear g1 h2 hf2 hl1
        by_cases hlt : j < zs.length
        · obtain ⟨b, off, rfl, hcell⟩ := hrow (by omega)
          obtain ⟨x, hx⟩ : ∃ x, zs[j]? = some x := ⟨_, List.getElem?_eq_getElem hlt⟩
          obtain ⟨e0, e1, e2⟩ := hcell j x hx
          have hbw : b < w.heap.size := World.block_lt_of_cell? _ _ e0
          have r0 := hf.cell e0 (by simp [Nil])
          have r1 := hf.cell e1 (by simp [Nil])
          have r2 := hf.cell e2 (by simp [Nil])
          have b1 : (0 : Int) ≤ (j : Int) := by omega
          have b2 : (j : Int) < (zs.length : Int) := by omega
          have hh := hit_le m x.at_
          clear hcell hx e0 e1 e2 hrow
          go_wp2_with fail
          go_region_with (first
            | (go_at_call 14; refine (do_any ba bw l m u x _ hl ha.drewD (by omega)).mono ?_; rintro e w3 ⟨rfl, h3, f3⟩; have r03 := f3.cell r0 (by simp; omega); have r13 := f3.cell r1 (by simp; omega); have r23 := f3.cell r2 (by simp; omega); have hr3 := hr.drewD.fr f3 (by omega) (by omega))
            | (go_at_call 15; refine (rdo_n ca cw l m u x _ hl (by assumption) (by omega) (by omega)).mono ?_; rintro e w4 ⟨rfl, h4, f4⟩; have h34 := h3.fr f4 (by omega) (by omega); have q4 := h4.box.cell 1; simp at q4; have n4 := h4.box.lt; have r04 := f4.cell r03 (by simp; omega); have r14 := f4.cell r13 (by simp; omega); have r24 := f4.cell r23 (by simp; omega))
            | (go_at_call 11; refine (uses_any ba bw _ _ _ (by assumption)).mono ?_; rintro e w5 ⟨rfl, rfl⟩))
          all_goals
            have hf4 : Fr Nil w w4 := (hf.drew.trans f3 (by omega)).trans f4 (by omega)
            clear h3 f3 f4 r0 r1 r2 r03 r13 r23 r04 r14 r24 hr3 q4 ha hr hf
            go_wp2
            go_roundw
            case rel => exact ⟨j + 1, _, u + hit m x.at_, by omega, by omega, by go_num, doL_hid hl x, h34, h4, hf4⟩
            case measure => simp [intOf]; omega
        · have : j = zs.length := by omega
          subst this
          have q0 := hr.box.cell 0
          have q1 := hr.box.cell 1
          simp at q0 q1
          have hca := hr.box.lt
          have hll := hl.out
          have hpos : 0 < l.length := by omega
          have hlm : l.length ≤ 1000000 := by omega
          have hcw : ∀ k, k < l.length → wr.cell? ⟨cw, k, none⟩ = some (.int .i64 (nth l k)) := fun k hk => (hr.words.cell k).trans (ints_at l k hk)
          have Hcw := Lib.hid hcw
          have hcwl := hr.words.lt
          clear hcw hll hrow
          go_wp2_with fail
          go_region_held3 (fun w' => w'.cell? ⟨ca, 0, none⟩ = some (.slice (some ⟨cw, 0, none⟩) l.length l.length) ∧ w'.cell? ⟨ca, 1, none⟩ = some (.int .i64 u)) (first | go_keep | exact ⟨q05, q15⟩ | exact ⟨q06, q16⟩) (first
            | (go_at_call 17; refine (words_any ba bw l u _ ha.drewD hpos hlm).mono ?_; rintro e w5 ⟨b', cap', rfl, hh5, hb5, f5⟩; have q05 := f5.cell (a := ⟨ca, 0, none⟩) q0 (by simp [Nil]); have q15 := f5.cell (a := ⟨ca, 1, none⟩) q1 (by simp [Nil]); have h5 := ha.drewD.fr f5 (by simp [Nil]) (by simp [Nil]); have hf5 := hf.drew.trans f5 (fun _ _ q => q))
            | (go_at_call 16; refine (same_any b' cw cap' l.length l _ (fun k hk => hh5.cell hk) (fun k hk => f5.cell (a := ⟨cw, k, none⟩) (Hcw.out k hk) (by simp [Nil])) hlm).mono ?_; rintro e w6 ⟨rfl, nq, rfl⟩; have h6 := h5.drewN nq; have hf6 := hf5.drewN nq; have q06 : (w5.drewN nq).cell? _ = _ := q05; have q16 : (w5.drewN nq).cell? _ = _ := q15)
            | (go_at_call 12; refine (len_any ba bw l u _ h6).mono ?_; rintro e w7 ⟨rfl, rfl⟩)
            | (go_at_call 11; refine (uses_any ba bw l u _ h6).mono ?_; rintro e w7 ⟨rfl, rfl⟩))
          go_wp2
          go_ret
          exact ⟨rfl, hf6⟩
    · have d1 : decide (5000 < (m : Int)) = false := by simp; omega
      go_enter Try.func4, Try.ntmps4
      go_wp2_with fail
      refine (awake_any _).mono ?_
      rintro e w0 ⟨rfl, f0⟩
      go_wp2
      go_ret
      exact ⟨rfl, f0⟩
  · by_cases hb : 5000 < n ∧ n ≤ 65536
    · obtain ⟨hb1, hb2⟩ := hb
      clear hn
      go_enter Try.func4, Try.ntmps4
      go_wp2_with fail
      refine (awake_any _).mono ?_
      rintro e w0 ⟨rfl, f0⟩
      go_wp2
      go_ret
      exact ⟨rfl, f0⟩
    · have hout : n < 1 ∨ 65536 < n := by omega
      clear hn hb
      rcases hout with ho | ho
      all_goals
        by_cases h200 : zs.length ≤ 200
        all_goals
          go_enter Try.func4, Try.ntmps4
          go_wp2_with fail
          refine (awake_any _).mono ?_
          rintro e w0 ⟨rfl, f0⟩
          go_wp2_with (first | (go_at_call 8; refine (new_out n _ (by omega)).mono ?_; rintro e w1 ⟨rfl, rfl⟩) | (go_at_call 13; refine (rnew_out n _ (by omega)).mono ?_; rintro e w1 ⟨rfl, rfl⟩))
          go_ret
          exact ⟨rfl, f0⟩
end Go.Proofs.Ytjmccfpkmnpgfaa
