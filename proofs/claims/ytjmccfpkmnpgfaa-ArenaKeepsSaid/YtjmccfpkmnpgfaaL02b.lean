/-
  The walks of the laws of layer 2, with acts.
-/
import Derived.Test.YtjmccfpkmnpgfaaL02
import Derived.Test.YtjmccfpkmnpgfaaOpen
import Derived.Deep.QuietTactic
import Derived.BigQuiet
import Derived.StillTailTactics
namespace Go.Proofs.Ytjmccfpkmnpgfaa
set_option linter.unusedSimpArgs false
set_option linter.unusedVariables false
open Go.RowKit

def doV (l : List Int) (x : Act3) : Int := if x.kind = 0 then ldv l x.at_ else 0
def doL (l : List Int) (x : Act3) : List Int := if x.kind = 0 then l else stl l x.at_ x.word
theorem doL_length (l : List Int) (x : Act3) : (doL l x).length = l.length := by unfold doL; split <;> simp [stl_length]
theorem doL_hid {l : List Int} {n : Nat} (h : Hid (l.length = n)) (x : Act3) : Hid ((doL l x).length = n) := (doL_length l x).trans h.out

theorem do_any (ba bw : Nat) (l : List Int) (n u : Nat) (x : Act3) (w : World) (hl : Hid (l.length = n)) (ha : Arena w ba bw l u) (hu : u < 4611686018427387904) :
    Calls Try.prog 14 #[.pointer (some ⟨ba, 0, none⟩), .agg #[.int .i64 x.kind, .int .i64 x.at_, .int .i64 x.word]] w fun e w' =>
      e = .returned (.agg #[.int .i64 (doV l x), .int .i64 (lde n x.at_)]) ∧ Arena w' ba bw (doL l x) (u + hit n x.at_) ∧ Fr (fun b => b = ba ∨ b = bw) w w' := by
  obtain ⟨kd, k, z⟩ := x
  have a1 : Arena ((w.alloc (.cells #[.int .i64 kd, .int .i64 k, .int .i64 z] 41)).alloc (.cells #[.int .i64 0, .int .i64 0] 38)) ba bw l u := ⟨(ha.box.alloc _).alloc _, (ha.words.alloc _).alloc _⟩
  have g1 := (Blk.new w #[.int .i64 kd, .int .i64 k, .int .i64 z] 41).alloc (.cells #[.int .i64 0, .int .i64 0] 38)
  have g2 := Blk.new (w.alloc (.cells #[.int .i64 kd, .int .i64 k, .int .i64 z] 41)) #[.int .i64 0, .int .i64 0] 38
  simp at g2
  have ff : Fr (fun b => b = ba ∨ b = bw) w ((w.alloc (.cells #[.int .i64 kd, .int .i64 k, .int .i64 z] 41)).alloc (.cells #[.int .i64 0, .int .i64 0] 38)) := ((Fr.refl _ w).alloc _).alloc _
  have hba := ha.box.lt
  have hbw := ha.words.lt
  by_cases hk : kd = 0
  · subst hk
    have e1 : doV l ⟨0, k, z⟩ = ldv l k := by simp [doV]
    have e2 : doL l ⟨0, k, z⟩ = l := by simp [doL]
    rw [e1, e2]
    clear e1 e2
    go_enter Try.func14, Try.ntmps14
    go_wp2_with fail
    refine (load_n ba bw l n u k _ hl a1 hu).mono ?_
    rintro e w1 ⟨rfl, h1, f1⟩
    have g4 := f1.blk g2 (by omega)
    have q0 := g4.cell 0
    have q1 := g4.cell 1
    have r0 := g4.free 0
    have r1 := g4.free 1
    simp at q0 q1
    have h2 := (h1.set (a := ⟨w.heap.size + 1, 0, none⟩) (by simp; omega) (by simp; omega) (.int .i64 (ldv l k))).set (a := ⟨w.heap.size + 1, 1, none⟩) (by simp; omega) (by simp; omega) (.int .i64 (lde n k))
    have f2 := ((ff.trans f1 (fun b _ q => .inl q)).set ⟨w.heap.size + 1, 0, none⟩ (.int .i64 (ldv l k)) (fun q => absurd q (by simp))).set ⟨w.heap.size + 1, 1, none⟩ (.int .i64 (lde n k)) (fun q => absurd q (by simp))
    clear h1 f1 ff g1 g2 g4 a1 ha
    go_wp2
    refine bodyPost_ret (v := .agg #[.int .i64 (ldv l k), .int .i64 (lde n k)]) (by simp [results, Try.results14, go_sem, q0, q1]) rfl ⟨rfl, h2, f2⟩
  · have e1 : doV l ⟨kd, k, z⟩ = 0 := by simp [doV, hk]
    have e2 : doL l ⟨kd, k, z⟩ = stl l k z := by simp [doL, hk]
    have hk' : (kd == 0) = false := by simpa using hk
    rw [e1, e2]
    clear e1 e2 hk
    go_enter Try.func14, Try.ntmps14
    go_wp2_with fail
    refine (store_n ba bw l n u k z _ hl a1 hu).mono ?_
    rintro e w1 ⟨rfl, h1, f1⟩
    have g4 := f1.blk g2 (by omega)
    have q0 := g4.cell 0
    have q1 := g4.cell 1
    have r0 := g4.free 0
    have r1 := g4.free 1
    simp at q0 q1
    have h2 := (h1.set (a := ⟨w.heap.size + 1, 0, none⟩) (by simp; omega) (by simp; omega) (.int .i64 0)).set (a := ⟨w.heap.size + 1, 1, none⟩) (by simp; omega) (by simp; omega) (.int .i64 (lde n k))
    have f2 := ((ff.comp f1).set ⟨w.heap.size + 1, 0, none⟩ (.int .i64 0) (fun q => absurd q (by simp))).set ⟨w.heap.size + 1, 1, none⟩ (.int .i64 (lde n k)) (fun q => absurd q (by simp))
    clear h1 f1 ff g1 g2 g4 a1 ha
    go_wp2
    refine bodyPost_ret (v := .agg #[.int .i64 0, .int .i64 (lde n k)]) (by simp [results, Try.results14, go_sem, q0, q1]) rfl ⟨rfl, h2, f2⟩
/-- The document's arena: its record, its words. -/
structure RArena (w : World) (ba bw : Nat) (l : List Int) (u : Nat) : Prop where
  box : Blk w ba #[.slice (some ⟨bw, 0, none⟩) l.length l.length, .int .i64 u] 45
  words : Blk w bw (ints l) 2

set_option maxHeartbeats 1000000 in
theorem rdo_any (ba bw : Nat) (l : List Int) (u : Nat) (x : Act3) (w : World) (ha : RArena w ba bw l u) (hlen : l.length ≤ 65536) (hu : u < 4611686018427387904) :
    Calls Try.prog 15 #[.pointer (some ⟨ba, 0, none⟩), .agg #[.int .i64 x.kind, .int .i64 x.at_, .int .i64 x.word]] w fun e w' =>
      e = .returned (.agg #[.int .i64 (doV l x), .int .i64 (lde l.length x.at_)]) ∧ RArena w' ba bw (doL l x) (u + hit l.length x.at_) ∧ Fr (fun b => b = ba ∨ b = bw) w w' := by
  obtain ⟨kd, k, z⟩ := x
  have hba := ha.box.lt
  have hbw := ha.words.lt
  have c0 := ha.box.cell 0
  have c1 := ha.box.cell 1
  have z1 := ha.box.free 1
  have n1 : ba ≠ bw := ha.box.apart ha.words (by decide)
  have n2 : bw ≠ ba := Ne.symm n1
  simp at c0 c1
  have ff : Fr (fun b => b = ba ∨ b = bw) w ((w.alloc (.cells #[.int .i64 kd, .int .i64 k, .int .i64 z] 41)).alloc (.cells #[.int .i64 0, .int .i64 0] 38)) := ((Fr.refl _ w).alloc _).alloc _
  by_cases hin : inR l.length k = true
  · obtain ⟨h0, h1⟩ := inR_iff.1 hin
    obtain ⟨n, rfl⟩ := Int.eq_ofNat_of_zero_le h0
    have cw := (ha.words.cell n).trans (ints_at l n (by omega))
    have zw := ha.words.free n
    have hd : decide ((n : Int) < 0) = false := by simp
    by_cases hk : kd = 0
    · subst hk
      go_enter Try.func15, Try.ntmps15
      go_wp2_with fail
      go_quiet (fail)
      go_wp2
      go_region
      go_wp2
      have e1 : doV l ⟨0, (n : Int), z⟩ = nth l n := by simp [doV, ldv, hin]
      have e2 : doL l ⟨0, (n : Int), z⟩ = l := by simp [doL]
      have e3 : lde l.length (n : Int) = 0 := by simp [lde, hin]
      have e4 : hit l.length (n : Int) = 1 := by simp [hit, hin]
      rw [e1, e2, e3, e4]
      clear e1 e2 e3 e4
      refine bodyPost_ret (v := .agg #[.int .i64 (nth l n), .int .i64 0]) (by simp [results, Try.results15, go_sem]) rfl ⟨rfl, ⟨?_, ?_⟩, ?_⟩
      · (unfold Blk; simp (disch := first | omega | (simp; omega)) only [hp_drew, hp_drewN, hp_alloc, hp_other, hp_same, hp_new, upd_cells, Option.map_some, (ha.box).eq])
        simp
      · (unfold Blk; simp (disch := first | omega | (simp; omega)) only [hp_drew, hp_drewN, hp_alloc, hp_other, hp_same, hp_new, upd_cells, Option.map_some, (ha.words).eq])
      · (repeat (first | (with_reducible exact Fr.refl _ _) | (with_reducible assumption) | (with_reducible refine Fr.drew ?_) | (with_reducible refine Fr.drewN ?_ _) | (with_reducible refine Fr.alloc ?_ _) | (with_reducible refine Fr.set ?_ _ _ (by first | (intros; omega) | (simp; done) | (simp; omega)))))
    · have hk' : (kd == 0) = false := by simpa using hk
      go_enter Try.func15, Try.ntmps15
      go_wp2_with fail
      go_quiet (fail)
      go_wp2
      go_region
      go_wp2
      have e1 : doV l ⟨kd, (n : Int), z⟩ = 0 := by simp [doV, hk]
      have e2 : doL l ⟨kd, (n : Int), z⟩ = l.set n z := by simp [doL, stl, hin, hk]
      have e3 : lde l.length (n : Int) = 0 := by simp [lde, hin]
      have e4 : hit l.length (n : Int) = 1 := by simp [hit, hin]
      rw [e1, e2, e3, e4]
      clear e1 e2 e3 e4
      refine bodyPost_ret (v := .agg #[.int .i64 0, .int .i64 0]) (by simp [results, Try.results15, go_sem]) rfl ⟨rfl, ⟨?_, ?_⟩, ?_⟩
      · (unfold Blk; simp (disch := first | omega | (simp; omega)) only [hp_drew, hp_drewN, hp_alloc, hp_other, hp_same, hp_new, upd_cells, Option.map_some, (ha.box).eq])
        simp
      · (unfold Blk; simp (disch := first | omega | (simp; omega)) only [hp_drew, hp_drewN, hp_alloc, hp_other, hp_same, hp_new, upd_cells, Option.map_some, (ha.words).eq])
        rw [ints_set]
      · (repeat (first | (with_reducible exact Fr.refl _ _) | (with_reducible assumption) | (with_reducible refine Fr.drew ?_) | (with_reducible refine Fr.drewN ?_ _) | (with_reducible refine Fr.alloc ?_ _) | (with_reducible refine Fr.set ?_ _ _ (by first | (intros; omega) | (simp; done) | (simp; omega)))))
  · have hn : inR l.length k = false := by simpa using hin
    have e1 : doV l ⟨kd, k, z⟩ = 0 := by simp [doV, ldv, hn]
    have e2 : doL l ⟨kd, k, z⟩ = l := by simp [doL, stl, hn]
    have e3 : lde l.length k = 1 := by simp [lde, hn]
    have e4 : hit l.length k = 0 := by simp [hit, hn]
    rw [e1, e2, e3, e4]
    have hout : k < 0 ∨ (l.length : Int) ≤ k := by
      rcases Int.lt_or_le k 0 with g | g
      · exact .inl g
      · rcases Int.lt_or_le k l.length with g' | g'
        · exact absurd (inR_yes g g') (by simp [hn])
        · exact .inr g'
    clear e1 e2 e3 e4 hn hin
    rcases hout with hout | hout
    · have hd : decide (k < 0) = true := by simpa using hout
      go_enter Try.func15, Try.ntmps15
      go_wp2_with fail
      go_quiet (fail)
      go_wp2
      rw [Nat.add_zero]
      refine bodyPost_ret (v := .agg #[.int .i64 0, .int .i64 1]) (by simp [results, Try.results15, go_sem]) rfl ⟨rfl, ⟨?_, ?_⟩, ?_⟩
      · (unfold Blk; simp (disch := first | omega | (simp; omega)) only [hp_drew, hp_drewN, hp_alloc, hp_other, hp_same, hp_new, upd_cells, Option.map_some, (ha.box).eq])
      · (unfold Blk; simp (disch := first | omega | (simp; omega)) only [hp_drew, hp_drewN, hp_alloc, hp_other, hp_same, hp_new, upd_cells, Option.map_some, (ha.words).eq])
      · (repeat (first | (with_reducible exact Fr.refl _ _) | (with_reducible assumption) | (with_reducible refine Fr.drew ?_) | (with_reducible refine Fr.drewN ?_ _) | (with_reducible refine Fr.alloc ?_ _) | (with_reducible refine Fr.set ?_ _ _ (by first | (intros; omega) | (simp; done) | (simp; omega)))))
    · have hd : decide (k < 0) = false := by simp; omega
      go_enter Try.func15, Try.ntmps15
      go_wp2_with fail
      go_quiet (fail)
      go_wp2
      rw [Nat.add_zero]
      refine bodyPost_ret (v := .agg #[.int .i64 0, .int .i64 1]) (by simp [results, Try.results15, go_sem]) rfl ⟨rfl, ⟨?_, ?_⟩, ?_⟩
      · (unfold Blk; simp (disch := first | omega | (simp; omega)) only [hp_drew, hp_drewN, hp_alloc, hp_other, hp_same, hp_new, upd_cells, Option.map_some, (ha.box).eq])
      · (unfold Blk; simp (disch := first | omega | (simp; omega)) only [hp_drew, hp_drewN, hp_alloc, hp_other, hp_same, hp_new, upd_cells, Option.map_some, (ha.words).eq])
      · (repeat (first | (with_reducible exact Fr.refl _ _) | (with_reducible assumption) | (with_reducible refine Fr.drew ?_) | (with_reducible refine Fr.drewN ?_ _) | (with_reducible refine Fr.alloc ?_ _) | (with_reducible refine Fr.set ?_ _ _ (by first | (intros; omega) | (simp; done) | (simp; omega)))))
theorem rnew_in (n : Int) (w : World) (h1 : 1 ≤ n) (h2 : n ≤ 65536) :
    Calls Try.prog 13 #[.int .i64 n] w fun e w' =>
      ∃ ba bw, e = .returned (.tuple #[.pointer (some ⟨ba, 0, none⟩), .int .i64 0]) ∧ RArena w' ba bw (List.replicate n.toNat 0) 0 ∧ w.heap.size ≤ ba ∧ w.heap.size ≤ bw ∧ Fr Nil w w' := by
  obtain ⟨m, rfl⟩ := Int.eq_ofNat_of_zero_le (show 0 ≤ n by omega)
  have hmk := run_make_ints w 43 2 Try.underlying43 infoInt m (by omega)
  have g1 := (Blk.new w (ints (List.replicate m 0)) 2).alloc (.cells #[.slice (some ⟨w.heap.size, 0, none⟩) m m, .int .i64 0] 45)
  have g2 := Blk.new (w.alloc (.cells (ints (List.replicate m 0)) 2)) #[.slice (some ⟨w.heap.size, 0, none⟩) m m, .int .i64 0] 45
  have g3 : Fr Nil w ((w.alloc (.cells (ints (List.replicate m 0)) 2)).alloc (.cells #[.slice (some ⟨w.heap.size, 0, none⟩) m m, .int .i64 0] 45)) := ((Fr.refl _ _).alloc _).alloc _
  simp at g2
  rw [Int.toNat_natCast]
  go_enter Try.func13, Try.ntmps13
  go_wp2
  go_ret2
  exact ⟨_, _, rfl, ⟨by simpa using g2, g1⟩, by omega, by omega, g3⟩
theorem rnew_out (n : Int) (w : World) (h : n < 1 ∨ 65536 < n) :
    Calls Try.prog 13 #[.int .i64 n] w fun e w' => e = .returned (.tuple #[.pointer none, .int .i64 1]) ∧ w = w' := by
  rcases h with h | h
  all_goals
    go_enter Try.func13, Try.ntmps13
    go_wp2
    go_ret2
    exact ⟨rfl, rfl⟩
/-- 'Words' of two rows that read as the same numbers. -/
theorem same_any (b c b' c' : Nat) (l : List Int) (w : World) (hb : ∀ k, k < l.length → w.cell? ⟨b, k, none⟩ = some (.int .i64 (nth l k))) (hc : ∀ k, k < l.length → w.cell? ⟨c, k, none⟩ = some (.int .i64 (nth l k))) (hl : l.length ≤ 1000000) :
    Calls Try.prog 16 #[.slice (some ⟨b, 0, none⟩) l.length b', .slice (some ⟨c, 0, none⟩) l.length c'] w fun e w' => e = .returned (.bool true) ∧ ∃ n, w' = w.drewN n := by
  go_enter Try.func16, Try.ntmps16
  go_wp2_with fail
  go_loopw [5] (fun i wr => ∃ j q : Nat, j ≤ l.length ∧ i = .int .i64 j ∧ wr = w.drewN q) (fun i _ => l.length - (intOf i).toNat)
  case atStart => exact ⟨0, 0, Nat.zero_le _, rfl, rfl⟩
  case round =>
    obtain ⟨j, q, hj, rfl, rfl⟩ := hrel
    by_cases hlt : j < l.length
    · have h1 := hb j hlt
      have h2 := hc j hlt
      have b1 : (0 : Int) ≤ (j : Int) := by omega
      have b2 : (j : Int) < (l.length : Int) := by omega
      clear hb hc
      go_wp2
      go_quiet (fail)
      go_wp2
      go_roundw
      case rel => exact ⟨j + 1, _, by omega, by go_num, rfl⟩
      case measure => simp [intOf]; omega
    · have : j = l.length := by omega
      subst this
      clear hb hc
      go_wp2
      go_ret
      exact ⟨rfl, _, rfl⟩
end Go.Proofs.Ytjmccfpkmnpgfaa
