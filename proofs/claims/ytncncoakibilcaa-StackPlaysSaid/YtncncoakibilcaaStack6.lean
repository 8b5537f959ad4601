/-
  The law's own helpers: awake; few; two frames compared.
-/
import Derived.Test.YtncncoakibilcaaStack5
import Derived.Test.YtncncoakibilcaaOpenFrames
namespace Go.Proofs.Ytncncoakibilcaa
set_option linter.unusedSimpArgs false
set_option linter.unusedVariables false
open Go.RowKit

theorem awake_any (w : World) : Calls Try.prog 7 #[] w fun e w' => e = .returned (.bool true) ∧ Fr Nil w w' := by
  go_enter Try.func7, Try.ntmps7
  go_wp2_with fail
  refine (snew_in 6 _ (by omega) (by omega) (fun _ => False)).mono ?_
  rintro e w1 ⟨rfl, st1, f1⟩
  have hs1 := st1.lt
  have st2 := st1.mono (Y := fun b => b = w.heap.size) (fun b _ q => .inr q) rfl
  simp at st2
  clear st1
  go_wp2_with fail
  refine (push_in (fun b => b = w.heap.size) w.heap.size [] 6 0 _ ⟨0, 0, [1, 2]⟩ _ (IntsAt.of_blk (b := w1.heap.size) (l := [1, 2]) (t := 2) (by (unfold Blk; simp (disch := first | omega | (simp; done) | (simp; omega)) only [hp_drew, hp_drewN, hp_alloc, hp_other, hp_same, hp_new, upd_cells, Option.map_some]) <;> simp [ints]) (fun q => by have q' : w1.heap.size = w.heap.size := q; omega) 2) (by simp) (by simp [usedOf]) (fun b q => by rw [q]; simp; omega) (st2.fr (S := Nil) (by (repeat (first | (with_reducible exact Fr.refl _ _) | (with_reducible assumption) | (with_reducible exact Fr.of_nil (by assumption)) | (with_reducible refine Fr.drew ?_) | (with_reducible refine Fr.drewN ?_ _) | (with_reducible refine Fr.alloc ?_ _) | (with_reducible refine Fr.set ?_ _ _ (by first | (intros; omega) | (simp; done) | (simp; omega))) | (with_reducible refine Fr.via ?_ (by assumption)) | (with_reducible refine Fr.comp ?_ (by assumption))))) (fun _ _ q => q.elim) (by simp [Nil]))).mono ?_
  rintro e w2 ⟨rfl, st3, f2⟩
  have f12 : Fr Nil w w2 := Fr.trans (by (repeat (first | (with_reducible exact Fr.refl _ _) | (with_reducible assumption) | (with_reducible exact Fr.of_nil (by assumption)) | (with_reducible refine Fr.drew ?_) | (with_reducible refine Fr.drewN ?_ _) | (with_reducible refine Fr.alloc ?_ _) | (with_reducible refine Fr.set ?_ _ _ (by first | (intros; omega) | (simp; done) | (simp; omega))) | (with_reducible refine Fr.via ?_ (by assumption)) | (with_reducible refine Fr.comp ?_ (by assumption))))) f2 (fun k hk q => by have q' : k = w.heap.size := q; omega)
  have hs2 := st3.lt
  clear f2 f1 st2
  simp at st3
  go_wp2_with fail
  refine (push_out (fun b => b = w.heap.size) w.heap.size [⟨0, 0, [1, 2]⟩] 6 0 _ ⟨0, 0, [1]⟩ _ (IntsAt.of_blk (b := w2.heap.size) (l := [1]) (t := 2) (by (unfold Blk; simp (disch := first | omega | (simp; done) | (simp; omega)) only [hp_drew, hp_drewN, hp_alloc, hp_other, hp_same, hp_new, upd_cells, Option.map_some]) <;> simp [ints]) (fun q => by have q' : w2.heap.size = w.heap.size := q; omega) 1) (by simp) (by simp [usedOf]) (st3.fr (S := Nil) (by (repeat (first | (with_reducible exact Fr.refl _ _) | (with_reducible assumption) | (with_reducible exact Fr.of_nil (by assumption)) | (with_reducible refine Fr.drew ?_) | (with_reducible refine Fr.drewN ?_ _) | (with_reducible refine Fr.alloc ?_ _) | (with_reducible refine Fr.set ?_ _ _ (by first | (intros; omega) | (simp; done) | (simp; omega))) | (with_reducible refine Fr.via ?_ (by assumption)) | (with_reducible refine Fr.comp ?_ (by assumption))))) (fun _ _ q => q.elim) (by simp [Nil]))).mono ?_
  rintro e w3 ⟨rfl, f3⟩
  have f13 : Fr Nil w2 w3 := Fr.trans (by (repeat (first | (with_reducible exact Fr.refl _ _) | (with_reducible assumption) | (with_reducible exact Fr.of_nil (by assumption)) | (with_reducible refine Fr.drew ?_) | (with_reducible refine Fr.drewN ?_ _) | (with_reducible refine Fr.alloc ?_ _) | (with_reducible refine Fr.set ?_ _ _ (by first | (intros; omega) | (simp; done) | (simp; omega))) | (with_reducible refine Fr.via ?_ (by assumption)) | (with_reducible refine Fr.comp ?_ (by assumption))))) f3 (fun _ _ q => q)
  have st4 := st3.fr f13 (fun _ _ q => q.elim) (by simp [Nil])
  have f14 := f12.comp f13
  have hs3 := st4.lt
  clear f3 f13 f12 st3
  go_wp2_with fail
  refine (push_in (fun b => b = w.heap.size) w.heap.size [⟨0, 0, [1, 2]⟩] 6 0 _ ⟨0, 0, []⟩ _ (IntsAt.nil _ _) (by simp) (by simp [usedOf]) (fun b q => by rw [q]; omega) st4).mono ?_
  rintro e w4 ⟨rfl, st5, f4⟩
  have f15 : Fr Nil w w4 := Fr.trans f14 f4 (fun k hk q => by have q' : k = w.heap.size := q; omega)
  clear f4 f14 st4
  go_wp2_with (first
    | (go_at_call 11; refine (sused_any (fun b => b = w.heap.size) w.heap.size _ 6 0 _ st5).mono ?_; rintro e w5 ⟨rfl, rfl⟩)
    | (go_at_call 12; refine (slen_any (fun b => b = w.heap.size) w.heap.size _ 6 0 _ st5).mono ?_; rintro e w5 ⟨rfl, rfl⟩))
  go_ret
  exact ⟨rfl, f15⟩

theorem same_yes (X : Nat → Prop) (f : FrameV) (u v : Value) (w : World) (hu : IntsAt X w u f.words) (hv : IntsAt X w v f.words) (hl : f.words.length ≤ 5000) :
    Calls Try.prog 14 #[.agg #[.int .i64 f.kind, .int .i64 f.node, u], .agg #[.int .i64 f.kind, .int .i64 f.node, v]] w fun e w' => e = .returned (.bool true) ∧ Fr Nil w w' := by
  obtain ⟨a, c, rfl, ha⟩ := hu
  obtain ⟨a', c', rfl, ha'⟩ := hv
  go_enter Try.func14, Try.ntmps14
  go_wp2_with fail
  obtain ⟨W, hW⟩ : ∃ W, W = (w.alloc (.cells #[.int .i64 f.kind, .int .i64 f.node, .slice a f.words.length c] 32)).alloc (.cells #[.int .i64 f.kind, .int .i64 f.node, .slice a' f.words.length c'] 32) := ⟨_, rfl⟩
  rw [← hW]
  have hF : Fr Nil w W := by
    rw [hW]; (repeat (first | (with_reducible exact Fr.refl _ _) | (with_reducible assumption) | (with_reducible exact Fr.of_nil (by assumption)) | (with_reducible refine Fr.drew ?_) | (with_reducible refine Fr.drewN ?_ _) | (with_reducible refine Fr.alloc ?_ _) | (with_reducible refine Fr.set ?_ _ _ (by first | (intros; omega) | (simp; done) | (simp; omega))) | (with_reducible refine Fr.via ?_ (by assumption)) | (with_reducible refine Fr.comp ?_ (by assumption))))
  have r1 : Blk W w.heap.size #[.int .i64 f.kind, .int .i64 f.node, .slice a f.words.length c] 32 := by
    rw [hW]; (unfold Blk; simp (disch := first | omega | (simp; done) | (simp; omega)) only [hp_drew, hp_drewN, hp_alloc, hp_other, hp_same, hp_new, upd_cells, Option.map_some])
  have r2 : Blk W (w.heap.size + 1) #[.int .i64 f.kind, .int .i64 f.node, .slice a' f.words.length c'] 32 := by
    rw [hW]; (unfold Blk; simp (disch := first | omega | (simp; done) | (simp; omega)) only [hp_drew, hp_drewN, hp_alloc, hp_other, hp_same, hp_new, upd_cells, Option.map_some])
  clear hW
  have p2 := r1.cell 2
  have q2 := r2.cell 2
  simp at p2 q2
  go_loopw [5] (fun i wr => ∃ j q : Nat, j ≤ f.words.length ∧ i = .int .i64 j ∧ wr = W.drewN q) (fun i _ => f.words.length - (intOf i).toNat)
  case atStart => exact ⟨0, 0, Nat.zero_le _, rfl, rfl⟩
  case round =>
    obtain ⟨j, q, hj, rfl, rfl⟩ := hrel
    by_cases hlt : j < f.words.length
    · obtain ⟨b, o, rfl, hc⟩ := ha (by omega)
      obtain ⟨b', o', rfl, hc'⟩ := ha' (by omega)
      have h1 := hF.cell (hc.2 j hlt) (by simp [Nil])
      have h2 := hF.cell (hc'.2 j hlt) (by simp [Nil])
      have b1 : (0 : Int) ≤ (j : Int) := by omega
      have b2 : (j : Int) < (f.words.length : Int) := by omega
      clear hc hc' ha ha'
      go_wp2
      go_quiet (fail)
      go_wp2
      go_roundw
      case rel => exact ⟨j + 1, _, by omega, by go_num, rfl⟩
      case measure => simp [intOf]; omega
    · have : j = f.words.length := by omega
      subst this
      clear ha ha'
      go_wp2
      go_ret
      exact ⟨rfl, hF.drewN _⟩

/-- Are calls few enough? -/
def fewB (l : List ActF) : Bool := decide (l.length ≤ 100) && l.all fun x => decide (x.f.words.length ≤ 5000)
theorem few_any (v : Value) (l : List ActF) (w : World) (h : RowFrames w v l) (hlen : l.length ≤ 9223372036854775807) : Calls Try.prog 8 #[v] w fun e w' => e = .returned (.bool (fewB l)) ∧ w = w' := by
  obtain ⟨a, cap, rfl, hc⟩ := h
  by_cases h100 : l.length ≤ 100
  · have d1 : decide (100 < (l.length : Int)) = false := by simp; omega
    go_enter Try.func8, Try.ntmps8
    go_wp2_with fail
    go_loop [3] (fun i => ∃ j : Nat, j ≤ l.length ∧ i = .int .i64 j ∧ Hid (∀ k x, k < j → l[k]? = some x → x.f.words.length ≤ 5000)) (fun i => l.length - (intOf i).toNat)
    case atStart => exact ⟨0, Nat.zero_le _, rfl, Lib.hid (fun k x hk => by omega)⟩
    case round =>
      obtain ⟨j, hj, rfl, hall⟩ := hrel
      by_cases hlt : j < l.length
      · obtain ⟨b, o, rfl, hcells⟩ := hc (by omega)
        obtain ⟨x, hx⟩ : ∃ x, l[j]? = some x := ⟨_, List.getElem?_eq_getElem hlt⟩
        obtain ⟨e0, e1, e2, hwl, u, e3, a', cap', rfl, _⟩ := hcells j x hx
        have b1 : (0 : Int) ≤ (j : Int) := by omega
        have b2 : (j : Int) < (l.length : Int) := by omega
        have HX := Lib.hid hx
        clear hcells hc e0 e1 e2 hx
        by_cases hs : x.f.words.length ≤ 5000
        · have d2 : decide (5000 < (x.f.words.length : Int)) = false := by simp; omega
          go_wp2
          go_round
          case rel =>
            refine ⟨j + 1, by omega, by go_num, Lib.hid (fun k y hk hy => ?_)⟩
            rcases Nat.lt_or_ge k j with g | g
            · exact hall.out k y g hy
            · obtain rfl : k = j := by omega
              have := HX.out
              rw [this] at hy
              cases hy
              exact hs
          case measure => simp [intOf]; omega
        · have d2 : decide (5000 < (x.f.words.length : Int)) = true := by simp; omega
          have hno : fewB l = false := by
            simp [fewB]
            intro _
            exact ⟨x, List.mem_of_getElem? HX.out, by omega⟩
          go_wp2
          go_ret
          exact ⟨rfl, rfl⟩
      · have : j = l.length := by omega
        subst this
        have hyes : fewB l = true := by
          simp [fewB]
          refine ⟨h100, fun x hx => ?_⟩
          obtain ⟨k, hk⟩ := List.mem_iff_getElem?.1 hx
          refine hall.out k x ?_ hk
          rcases Nat.lt_or_ge k l.length with g | g
          · exact g
          · rw [List.getElem?_eq_none g] at hk; cases hk
        clear hc
        go_wp2
        go_ret
        exact ⟨rfl, rfl⟩
  · have d1 : decide (100 < (l.length : Int)) = true := by simp; omega
    have hno : fewB l = false := by
      simp [fewB]
      intro h
      omega
    rw [hno]
    clear hc
    go_enter Try.func8, Try.ntmps8
    go_wp2
    go_ret
    exact ⟨rfl, rfl⟩
end Go.Proofs.Ytncncoakibilcaa
