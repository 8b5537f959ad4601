/-
  The walker at a variable (layer 12): a yield, unless its name is bound. No conditions.
-/
import Derived.Test.YthpenpgcacikaaaVarC
import Derived.Shelf.RegionOpen
import Derived.BigQuiet
namespace Go.Proofs.Ythpenpgcacikaaa
set_option linter.unusedSimpArgs false
set_option linter.unusedVariables false
open Go.RowKit Go.Shelf
attribute [local go_sem] Oper.semAt_some

theorem room_wide (k : Nat) : Fence.wide.room k := fun d h => by cases h
theorem YieldAt.deep {m : Nat} (m' : Nat) {P : Program} {l : Nat} {args : Array Value} {W : World} {R : Ending → World → Prop} (h : YieldAt Fence.wide m P l args W R) : YieldAt Fence.wide m' P l args W R := by
  obtain ⟨fn, tmps, assign, body, hy, hR⟩ := h
  exact ⟨fn, tmps, assign, body, hy, hR.1, fun c cs _ => hR.2 c cs (room_wide _)⟩
theorem WK.yield {l wk mb : Nat} {J : List (List UInt8) → World → Prop} {O : World → Nat → Prop} {A B : World} {pre pre' bl : List (List UInt8)} {n : Nat} (h : WK l wk mb J O A pre bl n) (hj : J pre' B) (f : Fr (O A) A B) (hn : ∀ k, O B k → O A k ∨ A.heap.size ≤ k) : WK l wk mb J O B pre' bl n ∧ Stp mb O A B :=
  ⟨⟨hj, h.m.fr f h.mb1, f.blk h.rc h.wk1, fun q => (hn _ q).elim h.wk1 (fun z => by have := h.rc.lt; omega), h.wk2, fun q => (hn _ q).elim h.mb1 (fun z => by have := h.m.lt; omega)⟩, ⟨f.mono (fun _ _ q => .inl q), hn⟩⟩
section
variable {l wk mb N : Nat} {J : List (List UInt8) → World → Prop} {O : World → Nat → Prop} {W : World} {pre bl : List (List UInt8)} {n : Nat}
set_option maxRecDepth 100000 in
set_option maxHeartbeats 4000000 in
theorem walk_var (hY : YL l mb N J O) {nm : List UInt8} {fl : Bool} {bi : Nat} {ps : List (List UInt8)} {ks : List TE} {bs : List TB} {al : List TA} : WalkOk l wk mb N J O (.mk 1 nm fl bi ps ks bs al) := by
  intro W pre bl m cs h hE ho h1 h2 h3
  have eo : occE (.mk 1 nm fl bi ps ks bs al) bl = if nm ∈ bl then [] else [nm] := by unfold occE; rw [if_pos rfl]
  have ew : 1 ≤ wtE (.mk 1 nm fl bi ps ks bs al) := by unfold wtE; rw [if_pos rfl]; omega
  obtain ⟨wt, hwt⟩ : ∃ wt, wtE (.mk 1 nm fl bi ps ks bs al) = wt := ⟨_, rfl⟩
  obtain ⟨R, hR⟩ : ∃ R, occE (.mk 1 nm fl bi ps ks bs al) bl = R := ⟨_, rfl⟩
  rw [hR, hwt]
  rw [hR] at eo
  rw [hwt] at ew h1 h3
  have HE := Lib.hid eo
  have hnl : nm.length ≤ maxLen := ho.1
  obtain ⟨a0, n0, c0, a1, n1, c1, a2, n2, c2, a3, n3, c3, rfl⟩ : ∃ a0 n0 c0 a1 n1 c1 a2 n2 c2 a3 n3 c3, cs = [.int .i64 1, .string ⟨nm.toArray⟩, .bool fl, .int .u64 (bi : Int), .slice a0 n0 c0, .slice a1 n1 c1, .slice a2 n2 c2, .slice a3 n3 c3] := by
    cases hE with
    | mk kc bc ac be ae bp an hp hk hk2 hb hb1 hb2 hb3 ha ha1 ha2 ha3 =>
      obtain ⟨_, _, rfl⟩ := RowC.shape hp
      obtain ⟨_, _, rfl⟩ := hk.shape
      obtain ⟨_, _, rfl⟩ := hb.shape
      obtain ⟨_, _, rfl⟩ := ha.shape
      exact ⟨_, _, _, _, _, _, _, _, _, _, _, _, rfl⟩
  clear hE ho eo hwt hR
  have HH := Lib.hid (And.intro h (And.intro h1 (And.intro h2 (And.intro h3 ew))))
  clear h h1 h2 h3 ew
  go_enter Try.func32, Try.ntmps32
  go_upto_region 3 with fail
  obtain ⟨W1, hW1⟩ : ∃ W1, (W.alloc (.cells #[.pointer (some ⟨wk, 0, none⟩)] 70)).alloc (.cells #[.int .i64 1, .string ⟨nm.toArray⟩, .bool fl, .int .u64 (bi : Int), .slice a0 n0 c0, .slice a1 n1 c1, .slice a2 n2 c2, .slice a3 n3 c3] 32) = W1 := ⟨_, rfl⟩
  rw [hW1]
  have hk1 := HH.out.1.keep hY (B := W1) (by rw [← hW1]; (repeat (first | (with_reducible exact Fr.refl _ _) | (with_reducible assumption) | (with_reducible exact Fr.of_nil (by assumption)) | (with_reducible refine Fr.drew ?_) | (with_reducible refine Fr.drewN ?_ _) | (with_reducible refine Fr.alloc ?_ _) | (with_reducible refine Fr.set ?_ _ _ (by first | (intros; omega) | (simp; done) | (simp; omega))) | (with_reducible refine Fr.via ?_ (by assumption)) | (with_reducible refine Fr.comp ?_ (by assumption)))))
  have b1 : Blk W1 W.heap.size #[.pointer (some ⟨wk, 0, none⟩)] 70 := by rw [← hW1]; (unfold Blk; simp (disch := first | omega | (simp; done) | (simp; omega)) only [hp_drew, hp_drewN, hp_alloc, hp_other, hp_same, hp_new, upd_cells, Option.map_some])
  have b2 : Blk W1 (W.heap.size + 1) #[.int .i64 1, .string ⟨nm.toArray⟩, .bool fl, .int .u64 (bi : Int), .slice a0 n0 c0, .slice a1 n1 c1, .slice a2 n2 c2, .slice a3 n3 c3] 32 := by rw [← hW1]; (unfold Blk; simp (disch := first | omega | (simp; done) | (simp; omega)) only [hp_drew, hp_drewN, hp_alloc, hp_other, hp_same, hp_new, upd_cells, Option.map_some])
  obtain ⟨T, hT⟩ : ∃ T, W.heap.size = T := ⟨_, rfl⟩
  rw [hT] at b1 b2 ⊢
  clear hW1
  have t0 := b1.cell 0
  have t1 := b1.lt
  have t2 := b2.cell 1
  have t3 := b2.lt
  simp at t0 t2
  clear b1 b2
  obtain ⟨q0, q1, qf, ql⟩ := hk1.1.facts
  have hk2 := hk1.1.keep hY (B := W1.drew) (by (repeat (first | (with_reducible exact Fr.refl _ _) | (with_reducible assumption) | (with_reducible exact Fr.of_nil (by assumption)) | (with_reducible refine Fr.drew ?_) | (with_reducible refine Fr.drewN ?_ _) | (with_reducible refine Fr.alloc ?_ _) | (with_reducible refine Fr.set ?_ _ _ (by first | (intros; omega) | (simp; done) | (simp; omega))) | (with_reducible refine Fr.via ?_ (by assumption)) | (with_reducible refine Fr.comp ?_ (by assumption)))))
  have hl := hk2.1.m.run hnl
  by_cases hn : nm ∈ bl
  · have he := HE.out
    rw [if_pos hn] at he
    have HE := Lib.hid he
    clear he
    have hc : 0 < List.count nm bl := List.count_pos_iff.2 hn
    obtain ⟨c, hcc⟩ : ∃ c, List.count nm bl = c := ⟨_, rfl⟩
    rw [hcc] at hl hc
    have hc1 : (0 : Int) < (c : Int) := by omega
    have HF := Lib.hid (And.intro (hk1.2.trans hk2.2) hk2.1)
    clear hk1 hk2 hn hcc
    go_region
    all_goals
      go_wp2
      go_ret
      refine ⟨rfl, ?_, HF.out.1⟩
      rw [HE.out, List.append_nil]
      exact HF.out.2.more (by omega)
  · have he := HE.out
    rw [if_neg hn] at he
    have HE := Lib.hid he
    clear he
    rw [List.count_eq_zero_of_not_mem hn] at hl
    have HF := Lib.hid (And.intro (hk1.2.trans hk2.2) hk2.1)
    obtain ⟨fn, tmps, assign, body, hy, hR⟩ := YieldAt.deep 6 (hY.yl pre nm W1.drew hk2.1.j (by have := HH.out.2.1; have := HH.out.2.2.2.2; omega))
    have HR := Lib.hid hR
    clear hk1 hk2 hR hn
    have hmx : Try.prog.follows .mixedOrders = true := by kernel_rfl
    refine (wpIn_wide (n := 7)).1 ?_
    gi_region_with_o (refine HR.out.mono ?_; rintro e W3 ⟨rfl, hj3, f3, hn3⟩; have HW := Lib.hid (HF.out.2.yield hj3 f3 hn3); clear hj3 f3 hn3)
    all_goals
      go_wp2
      go_ret
      refine ⟨rfl, ?_, HF.out.1.trans HW.out.2⟩
      rw [HE.out]
      exact HW.out.1.more (by omega)
end
end Go.Proofs.Ythpenpgcacikaaa
