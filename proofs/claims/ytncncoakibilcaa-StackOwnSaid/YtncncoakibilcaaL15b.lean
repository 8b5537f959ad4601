/-
  The law StackOwn: what it computes.
-/
import Derived.Test.YtncncoakibilcaaL15
import Derived.Test.YtncncoakibilcaaStack8
import Derived.Test.YtncncoakibilcaaStack9
namespace Go.Proofs.Ytncncoakibilcaa
set_option linter.unusedSimpArgs false
set_option linter.unusedVariables false
open Go.RowKit

theorem infoInt2 : (Try.prog.info? 2).map (fun i => (i.zero, i.size, i.bytes)) = some (some (.int .i64 0), 1, 8) := by kernel_rfl
/-- A row of numbers of the call's own, at a block's head. -/
def HoldsN (w : World) (b cap : Nat) (l : List Int) : Prop := ∃ cur, Blk w b cur 2 ∧ cur.size = cap ∧ cur.toList.take l.length = (ints l).toList
theorem HoldsN.cell {w : World} {b cap : Nat} {l : List Int} (h : HoldsN w b cap l) {k : Nat} (hk : k < l.length) : w.cell? ⟨b, k, none⟩ = some (.int .i64 (nth l k)) := by
  obtain ⟨cur, hb, _, ht⟩ := h
  rw [hb.cell k, ← ints_at l k hk]
  have : (cur.toList.take l.length)[k]? = (ints l).toList[k]? := by rw [ht]
  rw [List.getElem?_take_of_lt hk] at this
  simpa using this
theorem HoldsN.at {X : Nat → Prop} {w : World} {b cap : Nat} {l : List Int} (h : HoldsN w b cap l) (hx : ¬ X b) : IntsAt X w (.slice (some ⟨b, 0, none⟩) l.length cap) l :=
  ⟨_, cap, rfl, fun _ => ⟨b, 0, rfl, hx, fun i hi => by rw [Nat.zero_add]; exact h.cell hi⟩⟩
theorem HoldsN.free {w : World} {b cap : Nat} {l : List Int} (h : HoldsN w b cap l) (k : Nat) : w.frozen? ⟨b, k, none⟩ = false := h.choose_spec.1.free k
theorem HoldsN.lt {w : World} {b cap : Nat} {l : List Int} (h : HoldsN w b cap l) : b < w.heap.size := h.choose_spec.1.lt
theorem HoldsN.fr {w w1 : World} {S : Nat → Prop} {b cap : Nat} {l : List Int} (h : HoldsN w b cap l) (f : Fr S w w1) (hs : ¬ S b) : HoldsN w1 b cap l := by
  obtain ⟨cur, h1, h2, h3⟩ := h
  exact ⟨cur, f.blk h1 hs, h2, h3⟩

set_option maxHeartbeats 2000000 in
theorem own_in (v : Value) (zs : List Int) (turn : Int) (w : World) (h : RowInts w v zs) (h0 : 0 < zs.length) (h60 : zs.length ≤ 60) :
    Calls Try.prog 5 #[v, .int .i64 turn] w fun e w' => e = .returned (.bool true) ∧ Fr Nil w w' := by
  have hrow := h
  obtain ⟨a, cap, rfl, hc⟩ := h
  obtain ⟨b, off, rfl, hcell⟩ := hc h0
  have hne : zs.length ≠ 0 := by omega
  have hle : (zs.length : Int) ≤ 60 := by omega
  have hpos : (0 : Int) < (zs.length : Int) := by omega
  have d0 : ((zs.length : Int) == 0) = false := beq_eq_false_iff_ne.2 (by omega)
  have d1 : decide (60 < (zs.length : Int)) = false := by simp; omega
  obtain ⟨i0, hi, hz0, hz1, hz2⟩ := info_parts infoInt2
  go_enter Try.func5, Try.ntmps5
  go_wp2_with fail
  refine (awake_any _).mono ?_
  rintro e w1 ⟨rfl, f1⟩
  go_wp2_with fail
  refine (snew_in 4096 _ (by omega) (by omega) (fun _ => False)).mono ?_
  rintro e w3 ⟨rfl, st, f3⟩
  obtain ⟨bs, hbs⟩ : ∃ bs, bs = w1.heap.size := ⟨_, rfl⟩
  rw [← hbs] at st
  rw [← hbs]
  have hB : w.heap.size ≤ bs := by rw [hbs]; exact f1.size
  have ff := f1.comp f3
  have hst3 := st.lt
  clear f1 f3 hbs
  have hcells3 : ∀ i, i < zs.length → w3.cell? ⟨b, off + i, none⟩ = some (.int .i64 (nth zs i)) := fun i hi => ff.cell (hcell i hi) (by simp [Nil])
  have hown : (w3.alloc (.cells #[] 2)).ownsRow w3.heap.size 2 1 (.slice (some ⟨w3.heap.size, 0, none⟩) 0 0) 0 [] :=
    ⟨rfl, .inr ⟨w3.heap.size, 0, #[], rfl, Nat.le_refl _, Blk.new w3 #[] _, Nat.le_refl _, by unfold maxLen; omega, rfl, rfl⟩⟩
  have hcs : ∀ j u, (ints zs).toList[j]? = some u → (w3.alloc (.cells #[] 2)).cell? ((⟨b, off, none⟩ : Addr).add j) = some u := by
    intro j u hj
    have hjl : j < zs.length := by
      rcases Nat.lt_or_ge j zs.length with q | q
      · exact q
      · rw [List.getElem?_eq_none (by simp [ints]; exact q)] at hj; cases hj
    rw [add_at]
    have := ((Fr.refl Nil w3).alloc (.cells #[] 2)).cell (hcells3 j hjl) (by simp [Nil])
    rw [this, ← ints_at zs j hjl]
    simpa using hj
  have h1 : ∀ u ∈ (ints zs).toList, u.oneCell' = true := by
    intro u hu
    simp [ints] at hu
    obtain ⟨x, _, rfl⟩ := hu
    rfl
  go_wp2_with (at_builtin; refine wpList_append_own _ rfl (.tmp 34) (.tmp 35) 30 rfl w3.heap.size 2 i0 (.int .i64 0) 1 8 Try.underlying30 hi hz0 hz1 hz2 rfl (by decide) _ 0 [] rfl hown ⟨b, off, none⟩ zs.length cap (ints zs).toList rfl (by simp) hcs h1 (by unfold maxLen; omega) (by omega) (by simp) ?_)
  intro v' w4 hown1 hg1 hnil1
  have hex : ∃ g cap2 cur, v' = .slice (some ⟨g, 0, none⟩) zs.length cap2 ∧ w3.heap.size ≤ g ∧ Blk w4 g cur 2 ∧ zs.length ≤ cap2 ∧ cur.size = cap2 ∧ cur.toList.take zs.length = (ints zs).toList := by
    rcases hown1.2 with ⟨_, q⟩ | ⟨g, cap, cur, q1, q2, q3, q4, _, q5, q6⟩
    · omega
    · exact ⟨g, cap, cur, by simpa using q1, q2, q3, by simpa using q4, by simpa using q5, by simpa using q6⟩
  obtain ⟨g, cap2, cur, rfl, r1, r2, r3, r4, r5⟩ := hex
  have hH : HoldsN w4 g cap2 zs := ⟨cur, r2, r4, r5⟩
  have f4 : Fr Nil w3 w4 := ((Fr.refl _ w3).alloc _).grown hg1 (fun k hk q => by simp [Value.ownBlock] at hk; omega)
  have st4 := (st.mono (Y := fun b => b = bs ∨ b = g) (fun b hb q => by rcases q with q | q; exact .inr q; omega) (.inl rfl)).fr f4 (fun _ _ q => q.elim) (by simp [Nil])
  simp at st4
  have ff4 := ff.comp f4
  have hgl := hH.lt
  have hgb : g ≠ bs := by omega
  clear hown1 hg1 hnil1 hown hcs h1 hi hz0 hz1 hz2 st ff hcells3 hc r2 r4 r5
  go_wp2_with fail
  refine (push_own (fun b => b = bs ∨ b = g) bs [] 4096 0 w4 ⟨0, 0, zs⟩ _ (hH.at hgb) (by simp; omega) (by simp [usedOf]; omega) (fun b q => by have := f4.size; rcases q with q | q <;> omega) st4).mono ?_
  rintro e w5 ⟨rfl, st5, f5⟩
  simp at st5
  have hH5 := hH.fr f5 hgb
  have ff5 := ff4.trans f5 (fun k hk q => by have q' : k = bs := q; omega)
  have hg3 : w.heap.size ≤ g := by have := ff4.size; omega
  have e0 := hH5.cell h0
  have y0 := hH5.free 0
  have hgl5 := hH5.lt
  clear hH f4 f5 ff4 st4 hgl
  go_wp2_with fail
  obtain ⟨W, hW⟩ : ∃ W, W = w5.setCell ⟨g, 0, none⟩ (.int .i64 (wrap64 (nth zs 0 + 1))) := ⟨_, rfl⟩
  rw [← hW]
  have fW : Fr (fun b => b = g) w5 W := by
    rw [hW]; exact (Fr.refl _ _).set _ _ (fun _ => rfl)
  have st6 := st5.fr fW (fun b _ q => .inr q) (fun q => hgb q.symm)
  have ff6 : Fr Nil w W := ff5.trans fW (fun k hk q => by have q' : k = g := q; omega)
  have hgW : g < W.heap.size := fW.lt hgl5
  clear hW fW st5 ff5 hH5 e0 y0 hgl5
  have hbsW := st6.lt
  refine (list_any _ bs [⟨0, 0, zs⟩] 4096 0 W st6).mono ?_
  rintro e w7 ⟨vo, rfl, ho, f7⟩
  obtain ⟨hov, cs, hoo, hoc⟩ := ho
  obtain ⟨gl, capl, rfl⟩ := Joins.ownsRow_form hoo (by simp)
  obtain ⟨k0, k1, u, k2, bl, rfl, hbl, hblx⟩ := hoc.2 0 ⟨0, 0, zs⟩ rfl
  have hglx := hoo.lt gl rfl
  have hcl := fun j u hj => hoo.cells (g := gl) rfl j u hj
  have l0 := hcl _ _ k0
  have l1 := hcl _ _ k1
  have l2 := hcl _ _ k2
  rw [add_head] at l0 l1 l2
  simp at l0 l1 l2 hglx
  have hbl1 : W.heap.size + 1 < bl := by
    rcases Nat.lt_or_ge (W.heap.size + 1) bl with q | q
    · exact q
    · exact absurd (.inl q) hblx
  have hblg : bl ≠ gl := fun q => hblx (.inr (by rw [q]; rfl))
  clear hov hoo hoc hcl k0 k1 k2 hblx
  have hXX : ∀ b, (b = bs ∨ b = g) → b < W.heap.size := fun b q => by rcases q with q | q <;> omega
  have hblw := hbl.lt
  have hsz7 := f7.size
  have HST := Lib.hid st6
  have HX := Lib.hid hXX
  clear hXX
  simp only [List.length_cons, List.length_nil, Nat.zero_add]
  go_wp2_with fail
  refine (top_some (fun b => b = bs ∨ b = g) bs [⟨0, 0, zs⟩] 4096 0 w7 0 ⟨0, 0, zs⟩ rfl rfl (fun b q => by have := HX.out b q; omega) (HST.out.fr f7 (fun _ _ q => q.elim) (by simp [Nil]))).mono ?_
  rintro e w8 ⟨b', rfl, hb8, hsz8, f8⟩
  simp only at hb8
  obtain ⟨W2, hW2⟩ : ∃ W2, W2 = w8.alloc (.cells #[.int .i64 0, .int .i64 0, .slice (some ⟨b', 0, none⟩) zs.length zs.length] 32) := ⟨_, rfl⟩
  have fW2 : Fr Nil w7 W2 := by
    rw [hW2]; exact f8.alloc _
  have r1 : Blk W2 w8.heap.size #[.int .i64 0, .int .i64 0, .slice (some ⟨b', 0, none⟩) zs.length zs.length] 32 := by
    rw [hW2]; (unfold Blk; simp (disch := first | omega | (simp; done) | (simp; omega)) only [hp_drew, hp_drewN, hp_alloc, hp_other, hp_same, hp_new, upd_cells, Option.map_some])
  have r2 : Blk W2 b' (ints zs) 2 := by
    rw [hW2]; exact hb8.alloc _
  have r3 := fW2.blk hbl (by simp [Nil])
  have l0' := l0
  have l1' := l1
  have l2' := l2
  have l0 := fW2.cell l0 (by simp [Nil])
  have l1 := fW2.cell l1 (by simp [Nil])
  have l2 := fW2.cell l2 (by simp [Nil])
  have fS : Fr Nil W W2 := f7.comp fW2
  have hb8l := hb8.lt
  have hsz9 := f8.size
  have p0 := r1.cell 0
  have p1 := r1.cell 1
  have p2 := r1.cell 2
  simp at p0 p1 p2
  have n0 := (r3.cell 0).trans (ints_at zs 0 h0)
  have m0 := (r2.cell 0).trans (ints_at zs 0 h0)
  have x0 := r3.free 0
  have x1 := r2.free 0
  have hn1 : b' ≠ bl := by omega
  have hn2 : bl ≠ b' := by omega
  have hn3 : w8.heap.size ≠ bl := by omega
  have hn4 : bl ≠ w8.heap.size := by omega
  have hn5 : w8.heap.size ≠ b' := by omega
  have hn6 : gl ≠ bl := fun q => hblg q.symm
  have hn7 : gl ≠ b' := by omega
  have hn8 : gl ≠ w8.heap.size := by omega
  have dl : ((zs.length : Int) == (zs.length : Int)) = true := by simp
  have j0 := f8.cell l0' (by simp [Nil])
  have j1 := f8.cell l1' (by simp [Nil])
  have j2 := f8.cell l2' (by simp [Nil])
  have hgl8 : gl < w8.heap.size := by omega
  clear hbl hb8 fW2 f7 f8 l0' l1' l2'
  go_wp2_with fail
  rw [← hW2]
  clear j0 j1 j2 hW2
  go_region
  go_wp2
  obtain ⟨V, hV⟩ : ∃ V, V = (W2.setCell ⟨bl, 0, none⟩ (.int .i64 (bits BinOp.xor IntKind.i64 (nth zs 0) turn))).drew := ⟨_, rfl⟩
  rw [← hV]
  have fV : Fr (fun b => b = bl) W2 V := by
    rw [hV]; refine Fr.drew (Fr.set (Fr.refl _ _) _ _ ?_); exact fun _ => rfl
  have r1 := fV.blk r1 hn3
  have r2 := fV.blk r2 hn1
  clear hV p0 p1 p2 n0 m0 x0 x1 l0 l1 l2 r3
  have p0 := r1.cell 0
  have p1 := r1.cell 1
  have p2 := r1.cell 2
  simp at p0 p1 p2
  have m0 := (r2.cell 0).trans (ints_at zs 0 h0)
  have x1 := r2.free 0
  go_region
  go_wp2_with fail
  obtain ⟨V2, hV2⟩ : ∃ V2, V2 = (V.setCell ⟨b', 0, none⟩ (.int .i64 (bits BinOp.xor IntKind.i64 (nth zs 0) turn))).drew := ⟨_, rfl⟩
  rw [← hV2]
  have fV2 : Fr (fun b => b = b') V V2 := by
    rw [hV2]; refine Fr.drew (Fr.set (Fr.refl _ _) _ _ ?_); exact fun _ => rfl
  have hY := HST.out.mono (Y := fun b => (b = bs ∨ b = g) ∨ (W.heap.size ≤ b ∧ b < w8.heap.size)) (fun b hb q => q.elim id (fun q => by omega)) (.inl (.inl rfl))
  have hsV := fV.size
  have hsV2 := fV2.size
  have hsS := fS.size
  have hW8 : w8.heap.size < V.heap.size := r1.lt
  have st9 := ((hY.fr fS (fun _ _ q => q.elim) (by simp [Nil])).fr fV (fun b _ q => .inr (by have q' : b = bl := q; omega)) (fun q => by have q' : bs = bl := q; omega)).fr fV2 (fun b _ q => .inr (by have q' : b = b' := q; omega)) (fun q => by have q' : bs = b' := q; omega)
  have f9 : Fr Nil w V2 := ((ff6.comp fS).trans fV (fun k hk q => by have q' : k = bl := q; have := ff6.size; omega)).trans fV2 (fun k hk q => by have q' : k = b' := q; have := ff6.size; omega)
  clear hV2 hY r1 r2 p0 p1 p2 m0 x1 fV fV2 fS ff6
  refine (pop_some (fun b => (b = bs ∨ b = g) ∨ (W.heap.size ≤ b ∧ b < w8.heap.size)) bs [⟨0, 0, zs⟩] 4096 0 V2 0 ⟨0, 0, zs⟩ rfl rfl (fun b q => by rcases q with q | q; have := HX.out b q; omega; omega) st9).mono ?_
  rintro e w10 ⟨b'', rfl, hb10, hsz10, st10, f10⟩
  simp only at hb10
  have f11 : Fr Nil w w10 := f9.trans f10 (fun k hk q => by have q' : k = bs := q; omega)
  have hv10 : IntsAt (fun _ => False) w10 (.slice (some ⟨b'', 0, none⟩) zs.length zs.length) zs := IntsAt.of_blk hb10 id _
  have hu10 : IntsAt (fun _ => False) w10 (.slice (some ⟨b, off, none⟩) zs.length cap) zs := (IntsAt.of_row (X := fun _ => False) hrow (fun _ _ q => q)).fr f11 (fun _ _ q => q.elim)
  have hb10l := hb10.lt
  clear st10 f10 f9 st9
  go_wp2_with fail
  refine (same_yes (fun _ => False) ⟨0, 0, zs⟩ _ _ _ (hv10.fr (S := Nil) (by (repeat (first | (with_reducible exact Fr.refl _ _) | (with_reducible assumption) | (with_reducible exact Fr.of_nil (by assumption)) | (with_reducible refine Fr.drew ?_) | (with_reducible refine Fr.drewN ?_ _) | (with_reducible refine Fr.alloc ?_ _) | (with_reducible refine Fr.set ?_ _ _ (by first | (intros; omega) | (simp; done) | (simp; omega)))))) (fun _ _ q => q.elim)) (hu10.fr (S := Nil) (by (repeat (first | (with_reducible exact Fr.refl _ _) | (with_reducible assumption) | (with_reducible exact Fr.of_nil (by assumption)) | (with_reducible refine Fr.drew ?_) | (with_reducible refine Fr.drewN ?_ _) | (with_reducible refine Fr.alloc ?_ _) | (with_reducible refine Fr.set ?_ _ _ (by first | (intros; omega) | (simp; done) | (simp; omega)))))) (fun _ _ q => q.elim)) (by simp; omega)).mono ?_
  rintro e w12 ⟨rfl, f12⟩
  have f13 : Fr Nil w w12 := Fr.trans (by (repeat (first | (with_reducible exact Fr.refl _ _) | (with_reducible assumption) | (with_reducible exact Fr.of_nil (by assumption)) | (with_reducible refine Fr.drew ?_) | (with_reducible refine Fr.drewN ?_ _) | (with_reducible refine Fr.alloc ?_ _) | (with_reducible refine Fr.set ?_ _ _ (by first | (intros; omega) | (simp; done) | (simp; omega)))))) f12 (fun _ _ q => q)
  clear f12 f11 hv10 hu10 hb10
  go_wp2
  go_ret
  exact ⟨rfl, f13⟩
theorem own_any (v : Value) (zs : List Int) (turn : Int) (w : World) (h : RowInts w v zs) :
    Calls Try.prog 5 #[v, .int .i64 turn] w fun e w' => e = .returned (.bool true) ∧ Fr Nil w w' := by
  by_cases hn : 0 < zs.length ∧ zs.length ≤ 60
  · exact own_in v zs turn w h hn.1 hn.2
  · obtain ⟨a, cap, rfl, hc⟩ := h
    clear hc
    rcases (show zs.length = 0 ∨ 60 < zs.length by omega) with q | q
    · have d0 : ((zs.length : Int) == 0) = true := by simp [q] 
      go_enter Try.func5, Try.ntmps5
      go_wp2_with fail
      refine (awake_any _).mono ?_
      rintro e w1 ⟨rfl, f1⟩
      rw [q]
      clear d0 hn
      go_wp2
      go_ret
      exact ⟨rfl, f1⟩
    · have d0 : ((zs.length : Int) == 0) = false := beq_eq_false_iff_ne.2 (by omega)
      have d1 : decide (60 < (zs.length : Int)) = true := by simp; omega
      go_enter Try.func5, Try.ntmps5
      go_wp2_with fail
      refine (awake_any _).mono ?_
      rintro e w1 ⟨rfl, f1⟩
      go_wp2
      go_ret
      exact ⟨rfl, f1⟩
end Go.Proofs.Ytncncoakibilcaa
