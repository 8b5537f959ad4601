/-
  The law StackOrder: what it computes.
-/
import Derived.Test.YtncncoakibilcaaStack6
import Derived.Maps.AppendAt
import Derived.BigQuiet
import Derived.Deep.RegionHeld3
namespace Go.Proofs.Ytncncoakibilcaa
set_option linter.unusedSimpArgs false
set_option linter.unusedVariables false
open Go.RowKit

theorem Fr.grownBy {w w' : World} {b : Nat} (h : Fr (fun k => k = b) w w') : w.grownBy w' (some b) :=
  ⟨h.os, h.tape, h.output, h.size, fun k hk hn => h.block k hk (fun q => hn (by rw [q]))⟩
theorem Fr.grownBy0 {w w' : World} (h : Fr Nil w w') : w.grownBy w' none :=
  ⟨h.os, h.tape, h.output, h.size, fun k hk _ => h.block k hk (fun q => q.elim)⟩
/-- What a stack must keep apart from: itself, and the row v. -/
def Apart (bs : Nat) (v : Value) : Nat → Prop := fun b => b = bs ∨ v.ownBlock = some b
/-- The frames that were pushed, as the law keeps them: in a row of its own. -/
structure Ins (B bs : Nat) (w : World) (v : Value) (ins : List FrameV) : Prop where
  ex : ∃ cs, w.ownsRow (bs + 1) 32 3 v ins.length cs ∧ Cells3 (fun b => B ≤ b) w cs ins
theorem Ins.stack {B bs : Nat} {w w' : World} {v : Value} {ins : List FrameV} (h : Ins B bs w v ins) (hB : B ≤ bs) (f : Fr (fun b => b = bs) w w') : Ins B bs w' v ins := by
  obtain ⟨cs, h1, h2⟩ := h
  refine ⟨cs, h1.kept f.grownBy (.inr fun q => ?_), h2.fr f (fun b _ q => by rw [q]; exact hB)⟩
  have := h1.lt bs q
  omega
theorem Ins.quiet {B bs : Nat} {w w' : World} {v : Value} {ins : List FrameV} (h : Ins B bs w v ins) (f : Fr Nil w w') : Ins B bs w' v ins := by
  obtain ⟨cs, h1, h2⟩ := h
  refine ⟨cs, h1.kept f.grownBy0 ?_, h2.fr f (fun b _ q => q.elim)⟩
  cases v.ownBlock <;> simp
theorem Ins.nil (B bs : Nat) (w : World) : Ins B bs w (.slice none 0 0) [] := ⟨[], World.ownsRow_nil w _ _ _, Cells3.nil _ _⟩
theorem Ins.form {B bs : Nat} {w : World} {v : Value} {ins : List FrameV} (h : Ins B bs w v ins) : (v = .slice none 0 0 ∧ ins = []) ∨ ∃ g cap, v = .slice (some ⟨g, 0, none⟩) ins.length cap ∧ bs < g ∧ g < w.heap.size := by
  obtain ⟨cs, h1, h2⟩ := h
  rcases h1.2 with ⟨h, h0⟩ | ⟨g, cap, cur, h, hb, hg, _⟩
  · exact .inl ⟨h, List.eq_nil_of_length_eq_zero h0⟩
  · subst h
    exact .inr ⟨g, cap, rfl, hb, (h1.lt g rfl).2⟩
theorem Ins.lt {B bs : Nat} {w : World} {v : Value} {ins : List FrameV} (h : Ins B bs w v ins) (hbs : bs < w.heap.size) : ∀ b, Apart bs v b → b < w.heap.size := by
  obtain ⟨cs, h1, h2⟩ := h
  rintro b (rfl | q)
  · exact hbs
  · exact (h1.lt b q).2
theorem Ins.more {B bs : Nat} {w w' : World} {v v' : Value} {ins : List FrameV} {cs : List Value} {f : FrameV} {u : Value} (hB : B ≤ bs) (h : w.ownsRow (bs + 1) 32 3 v ins.length cs) (hc : Cells3 (fun b => B ≤ b) w cs ins) (hu : IntsAt (fun b => B ≤ b) w u f.words)
    (h' : w'.ownsRow (bs + 1) 32 3 v' (ins.length + 1) (cs ++ [.int .i64 f.kind, .int .i64 f.node, u])) (hg : w.grownBy w' v.ownBlock) : Ins B bs w' v' (ins ++ [f]) := by
  have hf : Fr (fun k => v.ownBlock = some k) w w' := (Fr.refl _ w).grown hg (fun k q _ => q)
  have hs : ∀ b, b < w.heap.size → v.ownBlock = some b → B ≤ b := fun b _ q => by have := (h.lt b q).1; omega
  exact ⟨_, by simpa using h', (hc.fr hf hs).snoc (hu.fr hf hs)⟩
theorem stack_more {bs : Nat} {w w' : World} {v v' : Value} {l : List FrameV} {room todo n : Nat} {cs : List Value} (h : StackAt (Apart bs v) w bs l room todo) (ho : w.ownsRow (bs + 1) 32 3 v n cs) (hg : w.grownBy w' v.ownBlock) (hb : v'.ownBlock = v.ownBlock ∨ v'.ownBlock = some w.heap.size) : StackAt (Apart bs v') w' bs l room todo := by
  have hf : Fr (fun k => v.ownBlock = some k) w w' := (Fr.refl _ w).grown hg (fun k q _ => q)
  have h1 := h.mono (Y := fun b => Apart bs v b ∨ b = w.heap.size) (fun b hb q => q.elim id (fun q => by omega)) (.inl (.inl rfl))
  have h2 := h1.fr hf (fun b _ q => .inl (.inr q)) (fun q => by have := (ho.lt bs q).1; omega)
  refine h2.mono (fun b _ q => ?_) (.inl rfl)
  rcases q with q | q
  · exact .inl (.inl q)
  · rcases hb with e | e
    · rw [e] at q; exact .inl (.inr q)
    · rw [e] at q; cases q; exact .inr rfl
theorem Ins.at {B bs : Nat} {w : World} {g cap : Nat} {ins : List FrameV} (h : Ins B bs w (.slice (some ⟨g, 0, none⟩) ins.length cap) ins) {k : Nat} {f : FrameV} (hk : ins[k]? = some f) :
    ∃ u, w.cell? ⟨g, k * 3, none⟩ = some (.int .i64 f.kind) ∧ w.cell? ⟨g, k * 3 + 1, none⟩ = some (.int .i64 f.node) ∧ w.cell? ⟨g, k * 3 + 2, none⟩ = some u ∧ IntsAt (fun b => B ≤ b) w u f.words := by
  obtain ⟨cs, h1, h2⟩ := h
  obtain ⟨e0, e1, u, e2, e3⟩ := h2.2 k f hk
  have hcell := fun j u hj => h1.cells (g := g) rfl j u hj
  exact ⟨u, by rw [← add_head]; exact hcell _ _ e0, by rw [← add_head]; exact hcell _ _ e1, by rw [← add_head]; exact hcell _ _ e2, e3⟩
theorem RowFrames.fr {v : Value} {l : List ActF} {w w1 : World} (h : RowFrames w v l) (f1 : Fr Nil w w1) : RowFrames w1 v l := by
  obtain ⟨a, cap, rfl, hc⟩ := h
  refine ⟨a, cap, rfl, fun hp => ?_⟩
  obtain ⟨b, o, hb, hx⟩ := hc hp
  refine ⟨b, o, hb, fun i x hi => ?_⟩
  obtain ⟨e0, e1, e2, e3, u, e4, e5⟩ := hx i x hi
  obtain ⟨a', cap', rfl, hr⟩ := e5
  refine ⟨f1.cell e0 (by simp [Nil]), f1.cell e1 (by simp [Nil]), f1.cell e2 (by simp [Nil]), e3, _, f1.cell e4 (by simp [Nil]), a', cap', rfl, fun hp => ?_⟩
  obtain ⟨b', o', hb', hr'⟩ := hr hp
  exact ⟨b', o', hb', fun i hi => f1.cell (hr' i hi) (by simp [Nil])⟩
theorem few_short {l : List ActF} (h : fewB l = true) : l.length ≤ 100 ∧ ∀ (k : Nat) (x : ActF), l[k]? = some x → x.f.words.length ≤ 5000 := by
  simp [fewB] at h
  exact ⟨h.1, fun k x hx => h.2 x (List.mem_of_getElem? hx)⟩

set_option maxHeartbeats 1000000 in
theorem order_in (v : Value) (l : List ActF) (m : Nat) (w : World) (h : RowFrames w v l) (hlen : l.length ≤ 9223372036854775807) (hfew : fewB l = true) (hm : m ≤ 4096) :
    Calls Try.prog 3 #[v, .int .i64 m] w fun e w' => e = .returned (.bool true) ∧ Fr Nil w w' := by
  have hrow := h
  obtain ⟨h100, hshort⟩ := few_short hfew
  obtain ⟨a, cap, rfl, hc⟩ := h
  obtain ⟨i0, hi, hz0, hz1, hz2⟩ := info_parts infoFrame
  have hm' : (m : Int) ≤ 4096 := by omega
  go_enter Try.func3, Try.ntmps3
  go_wp2_with fail
  refine (awake_any _).mono ?_
  rintro e w1 ⟨rfl, f1⟩
  go_wp2_with fail
  refine (few_any _ l w1 (hrow.fr f1) hlen).mono ?_
  rintro e w2 ⟨rfl, rfl⟩
  rw [hfew]
  go_wp2_with fail
  refine (snew_in m _ (by omega) (by omega) (fun _ => False)).mono ?_
  rintro e w3 ⟨rfl, st, f3⟩
  obtain ⟨bs, hbs⟩ : ∃ bs, bs = w1.heap.size := ⟨_, rfl⟩
  rw [← hbs] at st
  rw [← hbs]
  have st1 := st.mono (Y := Apart bs (.slice none 0 0)) (fun b _ q => by rcases q with q | q; exact .inr q; cases q) (.inl rfl)
  simp at st1
  have hB : w.heap.size ≤ bs := by rw [hbs]; exact f1.size
  have ff := f1.comp f3
  clear st f1 f3 hbs
  go_wp2_with fail
  go_loopw [7, 8, 9] (fun vin us i wr => ∃ (j : Nat) (ins : List FrameV) (vi : Value), vi = vin ∧ j ≤ l.length ∧ i = .int .i64 j ∧ us = .int .i64 (usedOf ins : Nat) ∧ ins.length ≤ j ∧ Ins w.heap.size bs wr vi ins ∧ StackAt (Apart bs vi) wr bs ins m 0 ∧ Fr Nil w wr) (fun _ _ i _ => l.length - (intOf i).toNat)
  case atStart => exact ⟨0, [], _, rfl, Nat.zero_le _, rfl, rfl, Nat.le_refl _, Ins.nil _ _ _, st1, ff⟩
  case round =>
    obtain ⟨j, ins, vi, rfl, hj, rfl, rfl, hij, hins, hst, hf⟩ := hrel
    clear st1 ff
    by_cases hlt : j < l.length
    · obtain ⟨b, o, rfl, hcells⟩ := hc (by omega)
      obtain ⟨x, hx⟩ : ∃ x, l[j]? = some x := ⟨_, List.getElem?_eq_getElem hlt⟩
      obtain ⟨e0, e1, e2, hwl, u, e3, hru⟩ := hcells j x hx
      have hi0 : IntsAt (fun b => w.heap.size ≤ b) w u x.f.words := IntsAt.of_row hru (fun b hb => by omega)
      obtain ⟨a', cap', rfl, _⟩ := hru
      have hxl := hshort j x hx
      have k1 := hf.cell e1 (by simp [Nil])
      have k2 := hf.cell e2 (by simp [Nil])
      have k3 := hf.cell e3 (by simp [Nil])
      have hi1 := hi0.fr hf (fun _ _ q => q.elim)
      have hiX := hi1.mono (Y := Apart bs vi) (fun b _ q => by
        rcases q with q | q
        · omega
        · obtain ⟨cs, h1, _⟩ := hins
          have := (h1.lt b q).1
          omega)
      have hbl : b < w.heap.size := World.block_lt_of_cell? _ _ e1
      have b1 : (0 : Int) ≤ (j : Int) := by omega
      have b2 : (j : Int) < (l.length : Int) := by omega
      have hul := hst.hused
      have hX := hins.lt hst.lt
      have hbs := hst.lt
      clear hcells hc hx e0 e1 e2 e3 hi0 hrow
      by_cases hfit : usedOf ins + (x.f.words.length + 2) ≤ m
      · have d1 : decide (((usedOf ins : Nat) : Int) + ((x.f.words.length : Int) + 2) ≤ (m : Int)) = true := by simp; omega
        have hwr : IntKind.i64.wrap (((usedOf ins : Nat) : Int) + ((x.f.words.length : Int) + 2)) = ((usedOf ins : Nat) : Int) + ((x.f.words.length : Int) + 2) := by rw [IntKind.wrap_i64]; omega
        go_wp2_with fail
        refine (push_in (Apart bs vi) bs ins m 0 _ x.f _ hiX hxl hfit hX hst).mono ?_
        rintro e w4 ⟨rfl, st4, f4⟩
        have q1 := f4.cell k1 (by simp; omega)
        have q2 := f4.cell k2 (by simp; omega)
        have q3 := f4.cell k3 (by simp; omega)
        have hins4 := hins.stack hB f4
        have hi4 := hi1.fr f4 (fun b _ q => by rw [q]; exact hB)
        have hf4 := hf.trans f4 (fun k hk q => by rw [q] at hk; omega)
        clear hins hst hi1 hiX hf f4 k1 k2 k3 hX
        obtain ⟨cs, hown, hc3⟩ := hins4
        have hownA := hown.alloc (.cells #[.int .i64 x.f.kind, .int .i64 x.f.node, .slice a' x.f.words.length cap'] 32)
        have hnew := new3 w4 (.int .i64 x.f.kind) (.int .i64 x.f.node) (.slice a' x.f.words.length cap') 32
        have hs4 := st4.lt
        go_wp2_with (at_builtin; refine wpList_append_own_at _ rfl (.tmp 71) (.tmp 77) 29 rfl (bs + 1) 32 i0 (.agg #[.int .i64 0, .int .i64 0, .slice none 0 0]) 3 40 Try.underlying29 hi hz0 hz1 hz2 rfl (by decide) vi ins.length cs rfl hownA ⟨w4.heap.size, 0, none⟩ 1 1 [.int .i64 x.f.kind, .int .i64 x.f.node, .slice a' x.f.words.length cap'] rfl rfl hnew (by simp [Value.oneCell']) (by unfold maxLen; omega) (by omega) (by simp; omega) ?_)
        intro v' w5 hown5 hg5 hnil5 hb5
        have fA : Fr Nil w4 (w4.alloc (.cells #[.int .i64 x.f.kind, .int .i64 x.f.node, .slice a' x.f.words.length cap'] 32)) := (Fr.refl _ _).alloc _
        have hins5 := Ins.more hB hownA (hc3.fr fA (fun _ _ q => q.elim)) (hi4.fr fA (fun _ _ q => q.elim)) hown5 hg5
        have st5 := stack_more (st4.fr fA (fun _ _ q => q.elim) (by simp [Nil])) hownA hg5 (by simpa using hb5)
        have hf5 := (hf4.comp fA).grown hg5 (fun k q hk => by have := (hown.lt k q).1; omega)
        clear hown hownA hc3 hg5 hb5 hnil5 hown5 fA hi4 hf4 st4 hnew q1 q2 q3 hs4
        go_wp2
        go_roundw
        case rel => exact ⟨j + 1, ins ++ [x.f], v', rfl, by omega, by go_num, by rw [usedOf_snoc]; go_num, by simp; omega, hins5, st5, hf5⟩
        case measure => simp [intOf]; omega
      · have d1 : decide (((usedOf ins : Nat) : Int) + ((x.f.words.length : Int) + 2) ≤ (m : Int)) = false := by simp; omega
        have hwr : IntKind.i64.wrap (((usedOf ins : Nat) : Int) + ((x.f.words.length : Int) + 2)) = ((usedOf ins : Nat) : Int) + ((x.f.words.length : Int) + 2) := by rw [IntKind.wrap_i64]; omega
        go_wp2_with fail
        refine (push_out (Apart bs vi) bs ins m 0 _ x.f _ hiX hxl (by omega) hst).mono ?_
        rintro e w4 ⟨rfl, f4⟩
        have hins4 := hins.quiet f4
        have st4 := hst.fr f4 (fun _ _ q => q.elim) (by simp [Nil])
        have hf4 := hf.comp f4
        clear hins hst hi1 hiX hf f4 k1 k2 k3 hX
        go_wp2
        go_roundw
        case rel => exact ⟨j + 1, ins, vi, rfl, by omega, by go_num, rfl, by omega, hins4, st4, hf4⟩
        case measure => simp [intOf]; omega
    · have : j = l.length := by omega
      subst this
      clear hc hrow hshort
      have hbs := hst.lt
      obtain ⟨ao, cap2, rfl, hform⟩ : ∃ ao cap2, vi = .slice ao ins.length cap2 ∧ (0 < ins.length → ∃ g, ao = some ⟨g, 0, none⟩ ∧ bs < g) := by
        rcases hins.form with ⟨rfl, rfl⟩ | ⟨g, cap2, rfl, hg, _⟩
        · exact ⟨_, _, rfl, fun q => absurd q (by simp)⟩
        · exact ⟨_, _, rfl, fun _ => ⟨g, rfl, hg⟩⟩
      have hinl : ins.length ≤ 100 := by omega
      go_wp2_with (first
        | (go_at_call 11; refine (sused_any _ bs ins m 0 _ hst).mono ?_; rintro e w5 ⟨rfl, rfl⟩)
        | (go_at_call 12; refine (slen_any _ bs ins m 0 _ hst).mono ?_; rintro e w5 ⟨rfl, rfl⟩))
      go_loopw [12] (fun i wr => ∃ (j : Nat) (z : Int), j ≤ ins.length ∧ z = (j : Int) - 1 ∧ i = .int .i64 z ∧ StackAt (Apart bs (.slice ao ins.length cap2)) wr bs (ins.take j) m 0 ∧ Ins w.heap.size bs wr (.slice ao ins.length cap2) ins ∧ Fr Nil w wr) (fun i _ => (intOf i + 1).toNat)
      case atStart => exact ⟨ins.length, _, Nat.le_refl _, rfl, rfl, by rw [List.take_length]; exact hst, hins, hf⟩
      case round =>
        obtain ⟨j, z, hj2, hz, rfl, hst2, hins2, hf2⟩ := hrel
        clear hst hins hf hbs
        have hbs := hst2.lt
        rcases j with _ | k
        · obtain rfl : z = -1 := by omega
          have hst3 : StackAt (Apart bs (.slice ao ins.length cap2)) wr bs [] m 0 := by simpa using hst2
          have hu0 : usedOf [] = 0 := rfl
          clear hst2 hins2 hz hform
          go_wp2_with (first
            | (go_at_call 11; refine (sused_any _ bs [] m 0 _ hst3).mono ?_; rintro e w5 ⟨rfl, rfl⟩)
            | (go_at_call 12; refine (slen_any _ bs [] m 0 _ hst3).mono ?_; rintro e w5 ⟨rfl, rfl⟩)
            | (go_at_call 15; refine (sleft_any _ bs [] m 0 _ hst3).mono ?_; rintro e w5 ⟨rfl, rfl⟩))
          go_ret
          exact ⟨rfl, hf2⟩
        · obtain rfl : z = (k : Int) := by omega
          obtain ⟨g, rfl, hgb⟩ := hform (by omega)
          obtain ⟨f, hfk⟩ : ∃ f, ins[k]? = some f := ⟨_, List.getElem?_eq_getElem (by omega)⟩
          obtain ⟨u, e0, e1, e2, hu⟩ := hins2.at hfk
          have hk1 : (ins.take (k + 1))[k]? = some f := by rw [List.getElem?_take_of_lt (by omega)]; exact hfk
          have hX := hins2.lt hst2.lt
          have hfl := hst2.hwords f (List.mem_of_getElem? hk1)
          have b1 : (0 : Int) ≤ (k : Int) := by omega
          have b2 : (k : Int) < (ins.length : Int) := by omega
          have hsz := hf2.size
          clear hform hz
          go_wp2_with fail
          refine (pop_some (Apart bs (.slice (some ⟨g, 0, none⟩) ins.length cap2)) bs (ins.take (k + 1)) m 0 _ k f hk1 (by simp; omega) hX hst2).mono ?_
          rintro e w6 ⟨b', rfl, hb6, hsz6, st6, f6⟩
          rw [List.take_take, Nat.min_eq_left (by omega : k ≤ k + 1), Nat.zero_min] at st6
          have hins6 := hins2.stack hB f6
          have hf6 := hf2.trans f6 (fun k' hk q => by rw [q] at hk; omega)
          have q0 := f6.cell e0 (by simp; omega)
          have q1 := f6.cell e1 (by simp; omega)
          have q2 := f6.cell e2 (by simp; omega)
          have hu6 := hu.fr f6 (fun b _ q => by rw [q]; exact hB)
          have hg6 : g < w6.heap.size := World.block_lt_of_cell? _ _ q0
          have hb6l := hb6.lt
          clear hins2 hst2 hf2 f6 e0 e1 e2 hu hX hfk hk1
          go_wp2_with fail
          obtain ⟨W, hW⟩ : ∃ W, W = w6.alloc (.cells #[.int .i64 f.kind, .int .i64 f.node, .slice (some ⟨b', 0, none⟩) f.words.length f.words.length] 32) := ⟨_, rfl⟩
          rw [← hW]
          have fW : Fr Nil w6 W := by
            rw [hW]; (repeat (first | (with_reducible exact Fr.refl _ _) | (with_reducible assumption) | (with_reducible exact Fr.of_nil (by assumption)) | (with_reducible refine Fr.drew ?_) | (with_reducible refine Fr.drewN ?_ _) | (with_reducible refine Fr.alloc ?_ _) | (with_reducible refine Fr.set ?_ _ _ (by first | (intros; omega) | (simp; done) | (simp; omega))) | (with_reducible refine Fr.via ?_ (by assumption)) | (with_reducible refine Fr.comp ?_ (by assumption))))
          have r1 : Blk W w6.heap.size #[.int .i64 f.kind, .int .i64 f.node, .slice (some ⟨b', 0, none⟩) f.words.length f.words.length] 32 := by
            rw [hW]; (unfold Blk; simp (disch := first | omega | (simp; done) | (simp; omega)) only [hp_drew, hp_drewN, hp_alloc, hp_other, hp_same, hp_new, upd_cells, Option.map_some])
          have r2 := fW.blk hb6 (by simp [Nil])
          clear hW hb6
          have q0 := fW.cell q0 (by simp [Nil])
          have q1 := fW.cell q1 (by simp [Nil])
          have q2 := fW.cell q2 (by simp [Nil])
          have p0 := r1.cell 0
          have p1 := r1.cell 1
          have p2 := r1.cell 2
          simp at p0 p1 p2
          have hv6 : IntsAt (fun _ => False) W (.slice (some ⟨b', 0, none⟩) f.words.length f.words.length) f.words := IntsAt.of_blk r2 id _
          have hu7 : IntsAt (fun _ => False) W u f.words := (hu6.fr fW (fun _ _ q => q.elim)).mono (fun _ _ q => q.elim)
          go_region_held3 (fun w' => w'.cell? ⟨w6.heap.size, 0, none⟩ = some (.int .i64 f.kind) ∧ w'.cell? ⟨w6.heap.size, 1, none⟩ = some (.int .i64 f.node) ∧ w'.cell? ⟨w6.heap.size, 2, none⟩ = some (.slice (some ⟨b', 0, none⟩) f.words.length f.words.length) ∧ w'.cell? ⟨g, k * 3, none⟩ = some (.int .i64 f.kind) ∧ w'.cell? ⟨g, k * 3 + 1, none⟩ = some (.int .i64 f.node) ∧ w'.cell? ⟨g, k * 3 + 2, none⟩ = some u) (first | go_keep | exact ⟨t0, t1, t2, t3, t4, t5⟩) (first
            | (go_at_call 14; refine (same_yes (fun _ => False) f _ _ _ (hv6.fr (S := Nil) (Fr.refl _ _).drew (fun _ _ q => q.elim)) (hu7.fr (S := Nil) (Fr.refl _ _).drew (fun _ _ q => q.elim)) hfl).mono ?_; rintro e V ⟨rfl, f7⟩; have fV := (Fr.refl Nil W).drew.trans f7 (fun _ _ q => q); have t0 := fV.cell p0 (by simp [Nil]); have t1 := fV.cell p1 (by simp [Nil]); have t2 := fV.cell p2 (by simp [Nil]); have t3 := fV.cell q0 (by simp [Nil]); have t4 := fV.cell q1 (by simp [Nil]); have t5 := fV.cell q2 (by simp [Nil])))
          have fV6 := fW.comp fV
          have hins7 := hins6.quiet fV6
          have st7 := st6.fr fV6 (fun _ _ q => q.elim) (by simp [Nil])
          have hf7 := hf6.comp fV6
          clear hins6 st6 hf6 fW fV r1 r2 q0 q1 q2 p0 p1 p2 hv6 hu7 hu6
          go_wp2
          go_roundw
          case rel => exact ⟨k, _, by omega, rfl, by go_num, st7, hins7, hf7⟩
          case measure => simp [intOf]
theorem order_any (v : Value) (l : List ActF) (r : Int) (w : World) (h : RowFrames w v l) (hlen : l.length ≤ 9223372036854775807) :
    Calls Try.prog 3 #[v, .int .i64 r] w fun e w' => e = .returned (.bool true) ∧ Fr Nil w w' := by
  cases hfew : fewB l with
  | true =>
    by_cases hr : 0 ≤ r ∧ r ≤ 4096
    · obtain ⟨m, rfl⟩ := Int.eq_ofNat_of_zero_le hr.1
      exact order_in v l m w h hlen hfew (by omega)
    · have hrow := h
      obtain ⟨a, cap, rfl, hc⟩ := h
      clear hc
      have hr' : r < 0 ∨ 4096 < r := by omega
      clear hr
      rcases hr' with hr | hr
      all_goals
        go_enter Try.func3, Try.ntmps3
        go_wp2_with fail
        refine (awake_any _).mono ?_
        rintro e w1 ⟨rfl, f1⟩
        go_wp2_with fail
        refine (few_any _ l w1 (hrow.fr f1) hlen).mono ?_
        rintro e w2 ⟨rfl, rfl⟩
        rw [hfew]
        clear hrow
        go_wp2
        go_ret
        exact ⟨rfl, f1⟩
  | false =>
    have hrow := h
    obtain ⟨a, cap, rfl, hc⟩ := h
    clear hc
    go_enter Try.func3, Try.ntmps3
    go_wp2_with fail
    refine (awake_any _).mono ?_
    rintro e w1 ⟨rfl, f1⟩
    go_wp2_with fail
    refine (few_any _ l w1 (hrow.fr f1) hlen).mono ?_
    rintro e w2 ⟨rfl, rfl⟩
    rw [hfew]
    clear hrow
    go_wp2
    go_ret
    exact ⟨rfl, f1⟩
end Go.Proofs.Ytncncoakibilcaa
