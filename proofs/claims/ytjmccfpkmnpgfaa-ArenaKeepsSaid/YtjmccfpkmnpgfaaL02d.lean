/-
  The walk of ArenaKeeps.
-/
import Derived.Test.YtjmccfpkmnpgfaaL02b
namespace Go.Proofs.Ytjmccfpkmnpgfaa
set_option linter.unusedSimpArgs false
set_option linter.unusedVariables false
open Go.RowKit

theorem ldv_same {l : List Int} {k x : Int} (h : inR l.length k = true) : ldv (stl l k x) k = x := by
  obtain ⟨h0, h1⟩ := inR_iff.1 h
  have h2 : inR (stl l k x).length k = true := by rw [stl_length]; exact h
  unfold ldv
  rw [if_pos h2]
  unfold stl
  rw [if_pos h]
  have : k.toNat < l.length := by omega
  simp [nth, List.getD_eq_getElem?_getD, List.getElem?_set, this]
theorem ldv_other {l : List Int} {k x o : Int} (h : k ≠ o) : ldv (stl l k x) o = ldv l o := by
  unfold ldv
  rw [stl_length]
  by_cases ho : inR l.length o = true
  · rw [if_pos ho, if_pos ho]
    unfold stl
    by_cases hk : inR l.length k = true
    · rw [if_pos hk]
      obtain ⟨h0, h1⟩ := inR_iff.1 hk
      obtain ⟨g0, g1⟩ := inR_iff.1 ho
      have : k.toNat ≠ o.toNat := by omega
      simp [nth, List.getD_eq_getElem?_getD, List.getElem?_set, this]
    · rw [if_neg hk]
  · rw [if_neg ho, if_neg ho]
/-- The last part of the law: behind the loop. -/
def Tail (w wr : World) (ba bw : Nat) (l : List Int) (m u : Nat) : Prop := Hid (l.length = m) ∧ Arena wr ba bw l u ∧ Fr Nil w wr

set_option maxHeartbeats 1000000 in
theorem keeps_any (n : Int) (v : Value) (k o z : Int) (zs : List Act3) (w : World) (hv : RowActs w v zs) (hzs : zs.length ≤ 9223372036854775807) :
    Calls Try.prog 5 #[.int .i64 n, v, .int .i64 k, .int .i64 o, .int .i64 z] w fun e w' => e = .returned (.bool true) ∧ Fr Nil w w' := by
  obtain ⟨a, cap, rfl, hrow⟩ := hv
  by_cases hn : 1 ≤ n ∧ n ≤ 5000
  · obtain ⟨hn1, hn2⟩ := hn
    obtain ⟨m, rfl⟩ := Int.eq_ofNat_of_zero_le (show 0 ≤ n by omega)
    by_cases h200 : zs.length ≤ 200
    · go_enter Try.func5, Try.ntmps5
      go_wp2_with fail
      refine (awake_any _).mono ?_
      rintro e w0 ⟨rfl, f0⟩
      go_wp2_with fail
      refine (new_in m _ (by omega) (by omega)).mono ?_
      rintro e w1 ⟨ba, bw, rfl, h1, b1, b2, f1⟩
      rw [Int.toNat_natCast] at h1
      have hl1 : Hid ((List.replicate m (0 : Int)).length = m) := List.length_replicate
      have hf2 : Fr Nil w w1 := f0.trans f1 (fun _ _ q => q)
      have hb1 : w.heap.size ≤ ba := Nat.le_trans f0.size b1
      have hb2 : w.heap.size ≤ bw := Nat.le_trans f0.size b2
      clear f0 f1 b1 b2
      go_wp2_with fail
      go_loopw [13] (fun i wr => ∃ (j : Nat) (l : List Int) (u : Nat), j ≤ zs.length ∧ u ≤ j ∧ i = .int .i64 j ∧ Hid (l.length = m) ∧ Arena wr ba bw l u ∧ Fr Nil w wr) (fun i _ => zs.length - (intOf i).toNat)
      case atStart => exact ⟨0, _, 0, by omega, by omega, rfl, hl1, h1, hf2⟩
      case round =>
        obtain ⟨j, l, u, hj, hu, rfl, hl, ha, hf⟩ := hrel
        clear h1 hf2 hl1
        by_cases hlt : j < zs.length
        · obtain ⟨b, off, rfl, hcell⟩ := hrow (by omega)
          obtain ⟨x, hx⟩ : ∃ x, zs[j]? = some x := ⟨_, List.getElem?_eq_getElem hlt⟩
          obtain ⟨e0, e1, e2⟩ := hcell j x hx
          have r0 := hf.cell e0 (by simp [Nil])
          have r1 := hf.cell e1 (by simp [Nil])
          have r2 := hf.cell e2 (by simp [Nil])
          have hh := hit_le m x.at_
          clear hcell hx e0 e1 e2 hrow
          go_wp2_with (go_at_call 14; refine (do_any ba bw l m u x _ hl ha (by omega)).mono ?_; rintro e w3 ⟨rfl, h3, f3⟩)
          have hf4 : Fr Nil w w3 := hf.trans f3 (by omega)
          go_roundw
          case rel => exact ⟨j + 1, _, u + hit m x.at_, by omega, by omega, by go_num, doL_hid hl x, h3, hf4⟩
          case measure => simp [intOf]; omega
        · have : j = zs.length := by omega
          subst this
          clear hrow
          go_wp2_with fail
          refine (load_n ba bw l m u o _ hl ha (by omega)).mono ?_
          rintro e w2 ⟨rfl, h2, f2⟩
          have hh := hit_le m o
          have hk := hit_le m k
          go_wp2_with fail
          refine (store_n ba bw l m (u + hit m o) k z _ hl h2 (by omega)).mono ?_
          rintro e w3 ⟨rfl, h3, f3⟩
          have hl3 := stl_hid hl k z
          go_wp2_with fail
          refine (load_n ba bw (stl l k z) m (u + hit m o + hit m k) o _ hl3 h3 (by omega)).mono ?_
          rintro e w4 ⟨rfl, h4, f4⟩
          go_wp2_with fail
          refine (load_n ba bw (stl l k z) m (u + hit m o + hit m k + hit m o) k _ hl3 h4 (by omega)).mono ?_
          rintro e w5 ⟨rfl, h5, f5⟩
          have hf5 : Fr Nil w w5 := (((hf.trans f2 (by omega)).trans f3 (by omega)).trans f4 (by omega)).trans f5 (by omega)
          clear h2 h3 h4 f2 f3 f4 f5 hf ha
          have hll := hl.out
          obtain ⟨u5, hu5⟩ : ∃ u5, u5 = u + hit m o + hit m k + hit m o + hit m k := ⟨_, rfl⟩
          rw [← hu5] at h5
          have hu5b : u5 < 4611686018427387904 := by omega
          clear hu5
          have e0 : ldv (stl l k z) 0 = nth (stl l k z) 0 := by
            unfold ldv; rw [if_pos (inR_yes (Int.le_refl _) (by rw [stl_length]; omega))]; rfl
          have e2 : 0 ≤ k ∧ k < m → ldv (stl l k z) k = z := fun q => ldv_same (by rw [hll]; exact inR_iff.2 q)
          have e3 : k ≠ o → ldv (stl l k z) o = ldv l o := fun q => ldv_other q
          have e4 : ¬ (0 ≤ k ∧ k < m) → ldv (stl l k z) o = ldv l o := fun q => by
            have : stl l k z = l := by unfold stl; rw [if_neg (by rw [hll]; exact fun h => q (inR_iff.1 h))]
            rw [this]
          have f5s := hf5.size
          have hm0 : 0 < m := by omega
          have hm9 : m ≤ 1000000 := by omega
          generalize hL : stl l k z = L at *
          clear hL hl hll
          have e5 : 0 ≤ k ∧ k < m → lde m k = 0 := fun q => by simp [lde, inR_iff.2 q]
          have e6 : ¬ (0 ≤ k ∧ k < m) → lde m k = 1 := fun q => by unfold lde; rw [if_neg (fun h => q (inR_iff.1 h))]
          have hcases : (0 ≤ k ∧ k < m ∧ k = o) ∨ (0 ≤ k ∧ k < m ∧ k ≠ o) ∨ (k < 0 ∧ k = o) ∨ (k < 0 ∧ k ≠ o) ∨ ((m : Int) ≤ k ∧ k = o) ∨ ((m : Int) ≤ k ∧ k ≠ o) := by omega
          rcases hcases with ⟨p1, p2, rfl⟩ | ⟨p1, p2, p3⟩ | ⟨p1, rfl⟩ | ⟨p1, p3⟩ | ⟨p1, rfl⟩ | ⟨p1, p3⟩
          · have x1 := e5 ⟨p1, p2⟩
            have x2 := e2 ⟨p1, p2⟩
            clear e2 e3 e4 e5 e6
            go_wp2_with fail
            refine (words_n ba bw _ m u5 _ hl3 h5 hm0 hm9).mono ?_
            rintro e w6 ⟨b', cap', rfl, hh6, hb6, f6⟩
            have c6 := hh6.cell (k := 0) (by rw [hl3.out]; exact hm0)
            have z6 := hh6.free 0
            have l6 := hh6.lt
            have h6 := h5.fr f6 (by simp [Nil]) (by simp [Nil])
            have hf6 := hf5.trans f6 (fun _ _ q => q)
            have h7 : Arena (w6.setCell ⟨b', 0, none⟩ (.int .i64 (wrap64 (nth L 0 + 1)))) ba bw L u5 := h6.set (by have := h5.box.lt; simp; omega) (by have := h5.words.lt; simp; omega) _
            have hf7 : Fr Nil w (w6.setCell ⟨b', 0, none⟩ (.int .i64 (wrap64 (nth L 0 + 1)))) := hf6.set _ _ (by simp; omega)
            clear h5 f6 h6 hf6 hf5 hb6
            go_wp2_with fail
            refine (load_n ba bw _ m u5 0 _ hl3 h7 hu5b).mono ?_
            rintro e w8 ⟨rfl, h8, f8⟩
            have hf8 : Fr Nil w w8 := hf7.trans f8 (by omega)
            clear h7 hf7 h8 f8 c6 z6 l6
            go_wp2
            go_ret
            exact ⟨rfl, hf8⟩
          · have x1 := e5 ⟨p1, p2⟩
            have x2 := e2 ⟨p1, p2⟩
            have x3 := e3 p3
            clear e2 e3 e4 e5 e6
            go_wp2_with fail
            refine (words_n ba bw _ m u5 _ hl3 h5 hm0 hm9).mono ?_
            rintro e w6 ⟨b', cap', rfl, hh6, hb6, f6⟩
            have c6 := hh6.cell (k := 0) (by rw [hl3.out]; exact hm0)
            have z6 := hh6.free 0
            have l6 := hh6.lt
            have h6 := h5.fr f6 (by simp [Nil]) (by simp [Nil])
            have hf6 := hf5.trans f6 (fun _ _ q => q)
            have h7 : Arena (w6.setCell ⟨b', 0, none⟩ (.int .i64 (wrap64 (nth L 0 + 1)))) ba bw L u5 := h6.set (by have := h5.box.lt; simp; omega) (by have := h5.words.lt; simp; omega) _
            have hf7 : Fr Nil w (w6.setCell ⟨b', 0, none⟩ (.int .i64 (wrap64 (nth L 0 + 1)))) := hf6.set _ _ (by simp; omega)
            clear h5 f6 h6 hf6 hf5 hb6
            go_wp2_with fail
            refine (load_n ba bw _ m u5 0 _ hl3 h7 hu5b).mono ?_
            rintro e w8 ⟨rfl, h8, f8⟩
            have hf8 : Fr Nil w w8 := hf7.trans f8 (by omega)
            clear h7 hf7 h8 f8 c6 z6 l6
            go_wp2
            go_ret
            exact ⟨rfl, hf8⟩
          · have x1 := e6 (by omega)
            have x3 := e4 (by omega)
            clear e2 e3 e4 e5 e6
            go_wp2_with fail
            refine (words_n ba bw _ m u5 _ hl3 h5 hm0 hm9).mono ?_
            rintro e w6 ⟨b', cap', rfl, hh6, hb6, f6⟩
            have c6 := hh6.cell (k := 0) (by rw [hl3.out]; exact hm0)
            have z6 := hh6.free 0
            have l6 := hh6.lt
            have h6 := h5.fr f6 (by simp [Nil]) (by simp [Nil])
            have hf6 := hf5.trans f6 (fun _ _ q => q)
            have h7 : Arena (w6.setCell ⟨b', 0, none⟩ (.int .i64 (wrap64 (nth L 0 + 1)))) ba bw L u5 := h6.set (by have := h5.box.lt; simp; omega) (by have := h5.words.lt; simp; omega) _
            have hf7 : Fr Nil w (w6.setCell ⟨b', 0, none⟩ (.int .i64 (wrap64 (nth L 0 + 1)))) := hf6.set _ _ (by simp; omega)
            clear h5 f6 h6 hf6 hf5 hb6
            go_wp2_with fail
            refine (load_n ba bw _ m u5 0 _ hl3 h7 hu5b).mono ?_
            rintro e w8 ⟨rfl, h8, f8⟩
            have hf8 : Fr Nil w w8 := hf7.trans f8 (by omega)
            clear h7 hf7 h8 f8 c6 z6 l6
            go_wp2
            go_ret
            exact ⟨rfl, hf8⟩
          · have x1 := e6 (by omega)
            have x3 := e4 (by omega)
            clear e2 e3 e4 e5 e6
            go_wp2_with fail
            refine (words_n ba bw _ m u5 _ hl3 h5 hm0 hm9).mono ?_
            rintro e w6 ⟨b', cap', rfl, hh6, hb6, f6⟩
            have c6 := hh6.cell (k := 0) (by rw [hl3.out]; exact hm0)
            have z6 := hh6.free 0
            have l6 := hh6.lt
            have h6 := h5.fr f6 (by simp [Nil]) (by simp [Nil])
            have hf6 := hf5.trans f6 (fun _ _ q => q)
            have h7 : Arena (w6.setCell ⟨b', 0, none⟩ (.int .i64 (wrap64 (nth L 0 + 1)))) ba bw L u5 := h6.set (by have := h5.box.lt; simp; omega) (by have := h5.words.lt; simp; omega) _
            have hf7 : Fr Nil w (w6.setCell ⟨b', 0, none⟩ (.int .i64 (wrap64 (nth L 0 + 1)))) := hf6.set _ _ (by simp; omega)
            clear h5 f6 h6 hf6 hf5 hb6
            go_wp2_with fail
            refine (load_n ba bw _ m u5 0 _ hl3 h7 hu5b).mono ?_
            rintro e w8 ⟨rfl, h8, f8⟩
            have hf8 : Fr Nil w w8 := hf7.trans f8 (by omega)
            clear h7 hf7 h8 f8 c6 z6 l6
            go_wp2
            go_ret
            exact ⟨rfl, hf8⟩
          · have x1 := e6 (by omega)
            have x3 := e4 (by omega)
            clear e2 e3 e4 e5 e6
            go_wp2_with fail
            refine (words_n ba bw _ m u5 _ hl3 h5 hm0 hm9).mono ?_
            rintro e w6 ⟨b', cap', rfl, hh6, hb6, f6⟩
            have c6 := hh6.cell (k := 0) (by rw [hl3.out]; exact hm0)
            have z6 := hh6.free 0
            have l6 := hh6.lt
            have h6 := h5.fr f6 (by simp [Nil]) (by simp [Nil])
            have hf6 := hf5.trans f6 (fun _ _ q => q)
            have h7 : Arena (w6.setCell ⟨b', 0, none⟩ (.int .i64 (wrap64 (nth L 0 + 1)))) ba bw L u5 := h6.set (by have := h5.box.lt; simp; omega) (by have := h5.words.lt; simp; omega) _
            have hf7 : Fr Nil w (w6.setCell ⟨b', 0, none⟩ (.int .i64 (wrap64 (nth L 0 + 1)))) := hf6.set _ _ (by simp; omega)
            clear h5 f6 h6 hf6 hf5 hb6
            go_wp2_with fail
            refine (load_n ba bw _ m u5 0 _ hl3 h7 hu5b).mono ?_
            rintro e w8 ⟨rfl, h8, f8⟩
            have hf8 : Fr Nil w w8 := hf7.trans f8 (by omega)
            clear h7 hf7 h8 f8 c6 z6 l6
            go_wp2
            go_ret
            exact ⟨rfl, hf8⟩
          · have x1 := e6 (by omega)
            have x3 := e4 (by omega)
            clear e2 e3 e4 e5 e6
            go_wp2_with fail
            refine (words_n ba bw _ m u5 _ hl3 h5 hm0 hm9).mono ?_
            rintro e w6 ⟨b', cap', rfl, hh6, hb6, f6⟩
            have c6 := hh6.cell (k := 0) (by rw [hl3.out]; exact hm0)
            have z6 := hh6.free 0
            have l6 := hh6.lt
            have h6 := h5.fr f6 (by simp [Nil]) (by simp [Nil])
            have hf6 := hf5.trans f6 (fun _ _ q => q)
            have h7 : Arena (w6.setCell ⟨b', 0, none⟩ (.int .i64 (wrap64 (nth L 0 + 1)))) ba bw L u5 := h6.set (by have := h5.box.lt; simp; omega) (by have := h5.words.lt; simp; omega) _
            have hf7 : Fr Nil w (w6.setCell ⟨b', 0, none⟩ (.int .i64 (wrap64 (nth L 0 + 1)))) := hf6.set _ _ (by simp; omega)
            clear h5 f6 h6 hf6 hf5 hb6
            go_wp2_with fail
            refine (load_n ba bw _ m u5 0 _ hl3 h7 hu5b).mono ?_
            rintro e w8 ⟨rfl, h8, f8⟩
            have hf8 : Fr Nil w w8 := hf7.trans f8 (by omega)
            clear h7 hf7 h8 f8 c6 z6 l6
            go_wp2
            go_ret
            exact ⟨rfl, hf8⟩
    · go_enter Try.func5, Try.ntmps5
      go_wp2_with fail
      refine (awake_any _).mono ?_
      rintro e w0 ⟨rfl, f0⟩
      go_wp2
      go_ret
      exact ⟨rfl, f0⟩
  · have hn' : n < 1 ∨ 5000 < n := by omega
    clear hn
    rcases hn' with hn | hn
    all_goals
      go_enter Try.func5, Try.ntmps5
      go_wp2_with fail
      refine (awake_any _).mono ?_
      rintro e w0 ⟨rfl, f0⟩
      go_wp2
      go_ret
      exact ⟨rfl, f0⟩
end Go.Proofs.Ytjmccfpkmnpgfaa
