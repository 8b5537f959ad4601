/-
  Rows of pairs; slices.Delete and slices.Insert at them. No conditions but sizes that memory bears.
-/
import Derived.Test.YtjcnbfiholcjkaaRows
import Derived.Test.YtjcnbfiholcjkaaRowk
import Derived.Shelf.RegionOpenPlain
import Derived.Deep.LoopGhost
import Derived.Deep.RegionLaw
import Derived.Deep.QuietTactic
import Derived.BigQuiet
import Derived.RegionTactic
import Derived.Laws.Externs
namespace Go.Proofs.Ytjcnbfiholcjkaa
set_option linter.unusedSimpArgs false
set_option linter.unusedVariables false
open Go.RowKit Go.Shelf

theorem infoPair : (Try.prog.info? 45).map (fun i => (i.zero, i.size, i.bytes)) = some (some (.agg #[.int .i64 0, .int .i64 0]), 2, 16) := by kernel_rfl
def pairCells (x : Nat × Nat) : List Value := [.int .i64 (x.1 : Int), .int .i64 (x.2 : Int)]
def flatP (l : List (Nat × Nat)) : List Value := l.flatMap pairCells
theorem flatP_cons (x : Nat × Nat) (l : List (Nat × Nat)) : flatP (x :: l) = pairCells x ++ flatP l := rfl
theorem flatP_append (l m : List (Nat × Nat)) : flatP (l ++ m) = flatP l ++ flatP m := by simp [flatP]
theorem flatP_len (l : List (Nat × Nat)) : (flatP l).length = l.length * 2 := by
  induction l with
  | nil => rfl
  | cons t l ih => rw [flatP_cons, List.length_append, ih]; simp [pairCells]; omega
theorem flatP_take (l : List (Nat × Nat)) (k : Nat) : (flatP l).take (k * 2) = flatP (l.take k) := by
  induction l generalizing k with
  | nil => simp [flatP]
  | cons x l ih =>
    cases k with
    | zero => simp [flatP]
    | succ k =>
      rw [flatP_cons, List.take_succ_cons, flatP_cons, ← ih k, show (k + 1) * 2 = (pairCells x).length + k * 2 by simp [pairCells]; omega, List.take_length_add_append]
theorem flatP_drop (l : List (Nat × Nat)) (k : Nat) : (flatP l).drop (k * 2) = flatP (l.drop k) := by
  induction l generalizing k with
  | nil => simp [flatP]
  | cons x l ih =>
    cases k with
    | zero => simp [flatP]
    | succ k =>
      rw [flatP_cons, List.drop_succ_cons, ← ih k, show (k + 1) * 2 = (pairCells x).length + k * 2 by simp [pairCells]; omega, List.drop_length_add_append]
theorem flatP_one (l : List (Nat × Nat)) : ∀ v ∈ flatP l, v.oneCell' = true := by
  intro v hv
  obtain ⟨x, _, hx⟩ := List.mem_flatMap.1 hv
  simp [pairCells] at hx
  rcases hx with rfl | rfl <;> rfl
theorem flatP_get (l : List (Nat × Nat)) (i : Nat) (hi : i < l.length) : (flatP l)[i * 2]? = some (.int .i64 (l[i].1 : Int)) ∧ (flatP l)[i * 2 + 1]? = some (.int .i64 (l[i].2 : Int)) := by
  have e := flatP_drop l i
  have h0 : ∀ j, (flatP l)[i * 2 + j]? = (flatP (l.drop i))[j]? := fun j => by rw [← e, List.getElem?_drop]
  rw [List.drop_eq_getElem_cons hi, flatP_cons] at h0
  exact ⟨by have := h0 0; simpa [pairCells] using this, by have := h0 1; simpa [pairCells] using this⟩
/-- A row of pairs of the call's own. -/
def PairsAt (base : Nat) (w : World) (v : Value) (l : List (Nat × Nat)) : Prop := w.ownsRow base 45 2 v l.length (flatP l)
theorem PairsAt.mk {base : Nat} {w : World} {l : List (Nat × Nat)} {g cap : Nat} {cur : Array Value} {n : Nat} (hn : n = l.length) (hg : base ≤ g) (hb : Blk w g cur 45) (h1 : l.length ≤ cap) (h2 : cap ≤ maxLen) (h3 : cur.size = cap * 2) (h4 : cur.toList.take (l.length * 2) = flatP l) :
    PairsAt base w (.slice (some ⟨g, 0, none⟩) n cap) l := by
  subst hn
  exact ⟨flatP_len l, .inr ⟨g, cap, cur, rfl, hg, hb, h1, h2, h3, h4⟩⟩
theorem flat_split {cur : List Value} {l : List (Nat × Nat)} (h : cur.take (l.length * 2) = flatP l) : cur = flatP l ++ cur.drop (l.length * 2) := by
  rw [← h, List.take_append_drop]
theorem zero_pair : (Builtin.zeroCells (Value.agg #[.int .i64 0, .int .i64 0]).cells 1).toList = [.int .i64 0, .int .i64 0] := by
  simp [Builtin.zeroCells, Value.cells, Array.toList_range, List.range_succ]
set_option maxRecDepth 100000 in
set_option maxHeartbeats 4000000 in
theorem delete_any (base : Nat) (v : Value) (L : List (Nat × Nat)) (k : Nat) (w : World) (h : PairsAt base w v L) (hk : k < L.length) :
    Calls Try.prog 22 #[v, .int .i64 k, .int .i64 ((k : Int) + 1)] w fun e w' => ∃ v', e = .returned v' ∧ PairsAt base w' v' (L.eraseIdx k) ∧ v'.ownBlock = v.ownBlock ∧ Fr (fun b => v.ownBlock = some b) w w' := by
  obtain ⟨_, ⟨rfl, hz⟩ | ⟨g, cap, cur, rfl, hg, hb, h1, h2, h3, h4⟩⟩ := h
  · omega
  obtain ⟨m, hn⟩ : ∃ m, L.length = m + 1 := ⟨L.length - 1, by omega⟩
  rw [hn]
  obtain ⟨i0, hi, hz0, hz1, hz2⟩ := info_parts infoPair
  have hcap : cap ≤ 9223372036854775807 := by unfold maxLen at h2; omega
  have hT : cur.toList = flatP L ++ cur.toList.drop ((m + 1) * 2) := by rw [← hn]; exact flat_split h4
  obtain ⟨T, hTd⟩ : ∃ T, cur.toList.drop ((m + 1) * 2) = T := ⟨_, rfl⟩
  rw [hTd] at hT
  have hblk : Blk w.drew g cur 45 := hb
  have hcell : ∀ j, w.drew.cell? ⟨g, j, none⟩ = (flatP L ++ T)[j]? := fun j => by rw [hblk.cell, ← hT, Array.getElem?_toList]
  have hlen : (flatP L ++ T).length = cap * 2 := by rw [← hT]; simpa using h3
  obtain ⟨news, hnews⟩ : ∃ news, flatP (L.drop (k + 1)) = news := ⟨_, rfl⟩
  have hnl : news.length = (m - k) * 2 := by rw [← hnews, flatP_len, List.length_drop, hn]; omega
  obtain ⟨A, hA, hsrc⟩ : ∃ A : Addr, (if cap = k + 1 then (some ⟨g, 0, none⟩ : Option Addr) else some ⟨g, (k + 1) * 2, none⟩) = some A ∧ Hid (∀ j u, news[j]? = some u → w.drew.cell? (A.add j) = some u) := by
    by_cases hc : cap = k + 1
    · refine ⟨⟨g, 0, none⟩, by simp [hc], fun j u hu => ?_⟩
      have h0 : news.length = 0 := by rw [hnl]; omega
      rw [List.length_eq_zero_iff.1 h0] at hu
      simp at hu
    · refine ⟨⟨g, (k + 1) * 2, none⟩, by simp [hc], fun j u hu => ?_⟩
      have hj : j < (m - k) * 2 := by rw [← hnl]; exact (List.getElem?_eq_some_iff.1 hu).1
      rw [add_at, hcell, List.getElem?_append_left (by rw [flatP_len, hn]; omega), ← List.getElem?_drop, flatP_drop, hnews]
      exact hu
  -- behind the append
  have hkl : k * 2 + news.length ≤ cur.size := by rw [h3, hnl]; omega
  have b1 := setCells_blk news (k * 2) w.drew cur hblk hkl
  have f1 : Fr (fun b => b = g) w (w.drew.setCells g (k * 2) news) := (Fr.refl _ w).drew.comp (setCells_fr g news (k * 2) w.drew)
  obtain ⟨C1, hC1⟩ : ∃ C1, (layL cur.toList (k * 2) news).toArray = C1 := ⟨_, rfl⟩
  have hC1l : C1.size = cap * 2 := by rw [← hC1, ← h3]; simpa using layL_len cur.toList (k * 2) news (by simpa using hkl)
  have hC1t : C1.toList = flatP (L.eraseIdx k) ++ C1.toList.drop (m * 2) := by
    have e1 : C1.toList = layL cur.toList (k * 2) news := by rw [← hC1]
    have e2 : layL cur.toList (k * 2) news = flatP (L.eraseIdx k) ++ cur.toList.drop (k * 2 + news.length) := by
      unfold layL
      rw [hT, List.take_append_of_le_length (by rw [flatP_len, hn]; omega), flatP_take, ← hnews, ← flatP_append, ← List.eraseIdx_eq_take_drop_succ]
    have hel : (flatP (L.eraseIdx k)).length = m * 2 := by rw [flatP_len, List.length_eraseIdx_of_lt hk, hn]; rfl
    rw [e1, e2, ← hel, List.drop_left]
  rw [hC1] at b1
  obtain ⟨W1, hW1⟩ : ∃ W1, w.drew.setCells g (k * 2) news = W1 := ⟨_, rfl⟩
  have hap : ∀ ty, (Builtin.append_ #[38, 38] ty #[.slice (some ⟨g, 0, none⟩) k cap, .slice (some A) (m - k) (cap - (k + 1))]).run Try.prog w.drew = .ok (.slice (some ⟨g, 0, none⟩) m cap) W1 := fun ty => by
    have h := run_append_here (P := Try.prog) w.drew _ ty 45 i0 Try.underlying38 hi g 0 k cap A (m - k) (cap - (k + 1)) news (by rw [hz1]; exact hnl) hsrc (by rw [← hnews]; exact flatP_one _) (by omega)
      (fun j hj => by
        rw [hnl] at hj
        refine ⟨?_, hblk.free _⟩
        rw [hcell, hz1, List.getElem?_eq_getElem (by rw [hlen]; omega)]; rfl)
    rw [hz1, Nat.zero_add, hW1, show k + (m - k) = m by omega] at h
    exact h
  rw [hW1] at b1 f1
  have hcl : ∀ (c : Nat) ty, (Builtin.clear_ #[38] ty #[.slice (some ⟨g, m * 2, none⟩) 1 c]).run Try.prog W1 = .ok (.tuple #[]) (W1.setCells g (m * 2) [.int .i64 0, .int .i64 0]) := fun c ty =>
    run_clear_many W1 _ ty _ _ Try.underlying38 Try.zeroValue45 g (m * 2) 1 c [.int .i64 0, .int .i64 0] zero_pair (by intro v hv; simp at hv; rw [hv]; rfl) (by omega)
      (fun j hj => by
        rw [b1.cell, Array.getElem?_eq_getElem (by simp at hj; rw [hC1l]; omega)]; rfl) (fun j _ => b1.free _)
  have b2 := setCells_blk [.int .i64 0, .int .i64 0] (m * 2) W1 C1 b1 (by simp; rw [hC1l]; omega)
  have f2 := f1.comp (setCells_fr g [.int .i64 0, .int .i64 0] (m * 2) W1)
  have hend : PairsAt base (W1.setCells g (m * 2) [.int .i64 0, .int .i64 0]) (.slice (some ⟨g, 0, none⟩) m cap) (L.eraseIdx k) := by
    have hel : (L.eraseIdx k).length = m := by rw [List.length_eraseIdx_of_lt hk, hn]; rfl
    refine PairsAt.mk hel.symm hg b2 (by omega) h2 ?_ ?_
    · simp
      rw [layL_len _ _ _ (by simp; rw [hC1l]; omega)]
      simpa using hC1l
    · rw [hel]
      simp
      unfold layL
      rw [List.append_assoc, List.take_append_of_le_length (by simp; rw [hC1l]; omega), List.take_take, Nat.min_self, hC1t, List.take_append_of_le_length (by rw [flatP_len, hel]; omega), List.take_of_length_le (by rw [flatP_len, hel]; omega)]
  obtain ⟨W2, hW2⟩ : ∃ W2, W1.setCells g (m * 2) [.int .i64 0, .int .i64 0] = W2 := ⟨_, rfl⟩
  simp only [hW2] at hcl hend f2
  have HAP := Lib.hid hap
  have HEND := Lib.hid hend
  have HF := Lib.hid f2
  have htn : ((k : Int) + 1).toNat = k + 1 := by omega
  have j0 : (0 : Int) ≤ (k : Int) + 1 := by omega
  have j1 : (k : Int) + 1 ≤ ((m + 1 : Nat) : Int) := by omega
  have j2 : (k : Int) ≤ (m : Int) := by omega
  have k1 : k ≤ cap := by omega
  have k2 : k + 1 ≤ cap := by omega
  have k3 : m ≤ cap := by omega
  have k4 : m + 1 ≤ cap := by omega
  have k5 : ¬ cap = m := by omega
  clear hap hsrc hT hTd hcell hblk hend f1 f2 b1 b2 hW1 hW2 hC1 hC1l hC1t hkl hnews hnl hlen h4 h3 hb
  go_enter Try.func22, Try.ntmps22
  go_wp2_with fail
  go_region_law (refine step_append_run rfl _ _ 38 38 rfl _ _ (by simp [Act.eval, Act.put]) (by simp [Act.eval, Act.put]) _ _ HAP.out ?_)
  go_wp2
  go_ret
  exact ⟨_, rfl, HEND.out, rfl, HF.out.mono (fun b _ q => by simp [Value.ownBlock, q])⟩
theorem ins_end (L : List (Nat × Nat)) (x : Nat × Nat) : L.take L.length ++ x :: L.drop L.length = L ++ [x] := by simp
set_option maxRecDepth 100000 in
set_option maxHeartbeats 4000000 in
/-- slices.Insert at the end. -/
theorem insert_end (base : Nat) (v : Value) (L : List (Nat × Nat)) (x : Nat × Nat) (vb vc : Nat) (w : World) (h : PairsAt base w v L) (hv : Blk w vb (pairCells x).toArray 45) (hL : L.length ≤ 1000000) (hbase : base ≤ w.heap.size) :
    Calls Try.prog 27 #[v, .int .i64 L.length, .slice (some ⟨vb, 0, none⟩) 1 vc] w fun e w' => ∃ v', e = .returned v' ∧ PairsAt base w' v' (L ++ [x]) ∧ (v'.ownBlock = v.ownBlock ∨ v'.ownBlock = some w.heap.size) ∧ Fr (fun b => v.ownBlock = some b) w w' := by
  obtain ⟨i0, hi, hz0, hz1, hz2⟩ := info_parts infoPair
  have hsrc : Src w (some ⟨vb, 0, none⟩) 1 2 (pairCells x) := .inr ⟨_, rfl, rfl, fun j u hj => by rw [add_head, hv.cell]; simpa using hj⟩
  have H := Lib.hid h
  have HS := Lib.hid hsrc
  have hml : L.length + 1 ≤ maxLen := by unfold maxLen; omega
  obtain ⟨n, hn⟩ : ∃ n, L.length = n := ⟨_, rfl⟩
  obtain ⟨a1, c1, rfl⟩ : ∃ a1 c1, v = .slice a1 n c1 := by
    rw [← hn]
    rcases h.2 with ⟨rfl, hz⟩ | ⟨g, cap, cur, rfl, _⟩
    · exact ⟨none, 0, by rw [hz]⟩
    · exact ⟨_, _, rfl⟩
  rw [hn]
  have H2 : Hid (w.ownsRow base 45 2 (.slice a1 n c1) n (flatP L)) := by
    have := H.out
    unfold PairsAt at this
    rw [hn] at this
    exact Lib.hid this
  rw [hn] at hml hL
  have hnc : n ≤ c1 := by
    rcases H2.out.2 with ⟨e, hz⟩ | ⟨g, cap, cur, e, _, _, hh, _⟩
    · omega
    · injection e with _ _ e3
      rw [e3]; exact hh
  have HN := Lib.hid hn
  clear h hsrc hn H
  by_cases hcn : c1 = n
  · subst hcn
    go_enter Try.func27, Try.ntmps27
    go_wp2_with (at_builtin; refine wpList_append_src rfl _ _ 38 rfl base 45 i0 _ 2 16 Try.underlying38 hi hz0 hz1 hz2 (by rfl) (by omega) (.slice a1 c1 c1) c1 (flatP L) rfl H2.out _ 1 vc (pairCells x) rfl HS.out (by intro u hu; simp [pairCells] at hu; rcases hu with rfl | rfl <;> rfl) hml (by omega) hbase ?_; intro v' w' r1 r2 r4)
    go_ret
    refine ⟨v', rfl, ?_, r4, ⟨r2.os, r2.tape, r2.output, r2.size, fun b hb hn => r2.block b hb (fun q => hn q.symm)⟩⟩
    unfold PairsAt
    rw [flatP_append, List.length_append, HN.out]
    exact r1
  · go_enter Try.func27, Try.ntmps27
    go_wp2_with (at_builtin; refine wpList_append_src rfl _ _ 38 rfl base 45 i0 _ 2 16 Try.underlying38 hi hz0 hz1 hz2 (by rfl) (by omega) (.slice a1 n c1) n (flatP L) rfl H2.out _ 1 vc (pairCells x) rfl HS.out (by intro u hu; simp [pairCells] at hu; rcases hu with rfl | rfl <;> rfl) hml (by omega) hbase ?_; intro v' w' r1 r2 r4)
    go_ret
    refine ⟨v', rfl, ?_, r4, ⟨r2.os, r2.tape, r2.output, r2.size, fun b hb hn => r2.block b hb (fun q => hn q.symm)⟩⟩
    unfold PairsAt
    rw [flatP_append, List.length_append, HN.out]
    exact r1
theorem flat_take_at {cur T : List Value} {L : List (Nat × Nat)} (h : cur = flatP L ++ T) (k : Nat) (hk : k ≤ L.length) : cur.take (k * 2) = flatP (L.take k) := by
  rw [h, List.take_append_of_le_length (by rw [flatP_len]; omega), flatP_take]
theorem overlaps_no (w : World) (vb g : Nat) (cv cur : Array Value) (hv : Blk w vb cv 45) (hg : Blk w g cur 45) (hne : vb ≠ g) (hs : 0 < cur.size) (o o2 l1 k1 l2 k2 : Nat) :
    (callFunc 29 #[.slice (some ⟨vb, o, none⟩) l1 k1, .slice (some ⟨g, o2, none⟩) l2 k2]).run Try.prog w = .ok (.value (.bool false)) w := by
  have s1 : w.shape? vb = some (45, cv.size) := by unfold Blk at hv; simp [World.shape?, hv]
  have s2 : w.shape? g = some (45, cur.size) := by unfold Blk at hg; simp [World.shape?, hg]
  rw [run_callFunc_extern Try.func29 (by kernel_rfl) (by kernel_rfl) (by kernel_rfl) (e := Extern.SlicesOverlaps.overlaps #[38, 38] #[4]) (by kernel_rfl),
    Lib.run_overlaps_apart w 38 4 45 Try.underlying38 2 Try.sizeOf45 ⟨vb, o, none⟩ ⟨g, o2, none⟩ l1 k1 l2 k2 hne 45 45 cv.size cur.size s1 s2 (by omega) (hv.free _) (hv.free _)]
  rfl
set_option maxRecDepth 100000 in
set_option maxHeartbeats 4000000 in
/-- slices.Insert ahead of others, where there is room. -/
theorem insert_room (base g cap : Nat) (cur : Array Value) (L : List (Nat × Nat)) (k : Nat) (x : Nat × Nat) (vb vc : Nat) (w : World) (hg : base ≤ g) (hb : Blk w g cur 45) (h1 : L.length < cap) (h2 : cap ≤ maxLen) (h3 : cur.size = cap * 2) (h4 : cur.toList.take (L.length * 2) = flatP L)
    (hk : k < L.length) (hv : Blk w vb (pairCells x).toArray 45) (hne : vb ≠ g) :
    Calls Try.prog 27 #[.slice (some ⟨g, 0, none⟩) L.length cap, .int .i64 k, .slice (some ⟨vb, 0, none⟩) 1 vc] w fun e w' => e = .returned (.slice (some ⟨g, 0, none⟩) (L.length + 1) cap) ∧ PairsAt base w' (.slice (some ⟨g, 0, none⟩) (L.length + 1) cap) (L.take k ++ x :: L.drop k) ∧ Fr (fun b => b = g) w w' := by
  obtain ⟨n, hn⟩ : ∃ n, L.length = n := ⟨_, rfl⟩
  rw [hn] at h1 h4 hk ⊢
  obtain ⟨i0, hi, hz0, hz1, hz2⟩ := info_parts infoPair
  have hcap : cap ≤ 9223372036854775807 := by unfold maxLen at h2; omega
  have hsz : (Try.prog.info? 45).map (·.size) = some 2 := by rw [hi]; simp [hz1]
  have hT : cur.toList = flatP L ++ cur.toList.drop (n * 2) := by rw [← h4, List.take_append_drop]
  obtain ⟨T, hTd⟩ : ∃ T, cur.toList.drop (n * 2) = T := ⟨_, rfl⟩
  rw [hTd] at hT
  have hblk : Blk w.drew g cur 45 := hb
  have hvd : Blk w.drew vb (pairCells x).toArray 45 := hv
  have hcell : ∀ j, w.drew.cell? ⟨g, j, none⟩ = (flatP L ++ T)[j]? := fun j => by rw [hblk.cell, ← hT, Array.getElem?_toList]
  have hlen : (flatP L ++ T).length = cap * 2 := by rw [← hT]; simpa using h3
  obtain ⟨news, hnews⟩ : ∃ news, flatP (L.drop k) = news := ⟨_, rfl⟩
  have hnl : news.length = (n - k) * 2 := by rw [← hnews, flatP_len, List.length_drop, hn]
  have hov := fun l2 k2 => overlaps_no w vb g _ cur hv hb hne (by rw [h3]; omega) 0 ((k + 1) * 2) 1 vc l2 k2
  have hkl : (k + 1) * 2 + news.length ≤ cur.size := by rw [h3, hnl]; omega
  have b1 := setCells_blk news ((k + 1) * 2) w.drew cur hblk hkl
  have f1 : Fr (fun b => b = g) w (w.drew.setCells g ((k + 1) * 2) news) := (Fr.refl _ w).drew.comp (setCells_fr g news ((k + 1) * 2) w.drew)
  obtain ⟨C1, hC1⟩ : ∃ C1, (layL cur.toList ((k + 1) * 2) news).toArray = C1 := ⟨_, rfl⟩
  have hC1l : C1.size = cap * 2 := by rw [← hC1, ← h3]; simpa using layL_len cur.toList ((k + 1) * 2) news (by simpa using hkl)
  rw [hC1] at b1
  obtain ⟨W1, hW1⟩ : ∃ W1, w.drew.setCells g ((k + 1) * 2) news = W1 := ⟨_, rfl⟩
  have hcp1 : ∀ dc sc ty, (Builtin.copy_ #[38, 38] ty #[.slice (some ⟨g, (k + 1) * 2, none⟩) (n - k) dc, .slice (some ⟨g, k * 2, none⟩) (n + 1 - k) sc]).run Try.prog w.drew = .ok (goInt (Nat.min (n + 1 - k) (n - k))) W1 := fun dc sc ty => by
    rw [← hW1]
    exact run_copy_many w.drew _ _ ty 45 2 g ((k + 1) * 2) (n - k) dc ⟨g, k * 2, none⟩ (n + 1 - k) sc news Try.underlying38 hsz (by rw [hnl]; simp only [Nat.min_def]; split <;> omega)
      (fun j u hj => by
        have hjl : j < (n - k) * 2 := by rw [← hnl]; exact (List.getElem?_eq_some_iff.1 hj).1
        rw [add_at, hcell, List.getElem?_append_left (by rw [flatP_len, hn]; omega), ← List.getElem?_drop, flatP_drop, hnews]
        exact hj)
      (fun j hj => by rw [hnl] at hj; rw [hcell, List.getElem?_eq_getElem (by rw [hlen]; omega)]; rfl) (fun j _ => hblk.free _) (by rw [← hnews]; exact flatP_one _)
  rw [hW1] at b1 f1
  have hv1 : Blk W1 vb (pairCells x).toArray 45 := f1.blk hv hne
  have b2 := setCells_blk (pairCells x) (k * 2) W1 C1 b1 (by simp [pairCells]; rw [hC1l]; omega)
  have f2 := f1.comp (setCells_fr g (pairCells x) (k * 2) W1)
  obtain ⟨W2, hW2⟩ : ∃ W2, W1.setCells g (k * 2) (pairCells x) = W2 := ⟨_, rfl⟩
  have hcp2 : ∀ dc ty, (Builtin.copy_ #[38, 38] ty #[.slice (some ⟨g, k * 2, none⟩) (n + 1 - k) dc, .slice (some ⟨vb, 0, none⟩) 1 vc]).run Try.prog W1 = .ok (goInt (Nat.min 1 (n + 1 - k))) W2 := fun dc ty => by
    rw [← hW2]
    exact run_copy_many W1 _ _ ty 45 2 g (k * 2) (n + 1 - k) dc ⟨vb, 0, none⟩ 1 vc (pairCells x) Try.underlying38 hsz (by rw [show Nat.min 1 (n + 1 - k) = 1 from Nat.min_eq_left (by omega)]; rfl)
      (fun j u hj => by rw [add_at, Nat.zero_add, hv1.cell]; simpa using hj)
      (fun j hj => by simp [pairCells] at hj; rw [b1.cell, Array.getElem?_eq_getElem (by rw [hC1l]; omega)]; rfl) (fun j _ => b1.free _) (by intro u hu; simp [pairCells] at hu; rcases hu with rfl | rfl <;> rfl)
  rw [hW2] at b2 f2
  have hend : PairsAt base W2 (.slice (some ⟨g, 0, none⟩) (n + 1) cap) (L.take k ++ x :: L.drop k) := by
    have hel : (L.take k ++ x :: L.drop k).length = n + 1 := by simp; omega
    have hC1e : C1.toList = flatP (L.take k) ++ (cur.toList.drop (k * 2)).take 2 ++ flatP (L.drop k) ++ cur.toList.drop ((k + 1) * 2 + news.length) := by
      rw [← hC1]
      show layL cur.toList ((k + 1) * 2) news = _
      unfold layL
      rw [← hnews, show (k + 1) * 2 = k * 2 + 2 by omega, List.take_add, flat_take_at hT k (by omega)]
    refine PairsAt.mk hel.symm hg b2 (by omega) h2 ?_ ?_
    · simp
      rw [layL_len _ _ _ (by simp [pairCells]; rw [hC1l]; omega)]
      simpa using hC1l
    · rw [hel]
      simp only [List.toList_toArray]
      unfold layL
      have hp : (pairCells x).length = 2 := rfl
      have ht : (flatP (L.take k)).length = k * 2 := by rw [flatP_len, List.length_take]; omega
      have hd : ((cur.toList.drop (k * 2)).take 2).length = 2 := by simp; omega
      have hd2 : (flatP (L.drop k)).length = (n - k) * 2 := by rw [flatP_len, List.length_drop, hn]
      rw [hC1e, hp]
      have e1 : (flatP (L.take k) ++ (cur.toList.drop (k * 2)).take 2 ++ flatP (L.drop k) ++ cur.toList.drop ((k + 1) * 2 + news.length)).take (k * 2) = flatP (L.take k) := by
        rw [List.append_assoc, List.append_assoc]
        exact List.take_left' ht
      have e2 : (flatP (L.take k) ++ (cur.toList.drop (k * 2)).take 2 ++ flatP (L.drop k) ++ cur.toList.drop ((k + 1) * 2 + news.length)).drop (k * 2 + 2) = flatP (L.drop k) ++ cur.toList.drop ((k + 1) * 2 + news.length) := by
        rw [List.append_assoc]
        exact List.drop_left' (by rw [List.length_append, ht, hd])
      rw [e1, e2, ← List.append_assoc]
      have e3 : flatP (L.take k ++ x :: L.drop k) = flatP (L.take k) ++ pairCells x ++ flatP (L.drop k) := by rw [flatP_append, flatP_cons, List.append_assoc]
      rw [e3]
      exact List.take_left' (by rw [List.length_append, List.length_append, ht, hp, hd2]; omega)
  have HEND := Lib.hid hend
  have HF := Lib.hid f2
  have q1 : ¬ (k : Int) = (n : Int) := by omega
  have q2 : IntKind.i64.wrap ((n : Int) + 1) = (n : Int) + 1 := by rw [IntKind.wrap_i64]; omega
  have q3 : IntKind.i64.wrap ((k : Int) + 1) = (k : Int) + 1 := by rw [IntKind.wrap_i64]; omega
  have q4 : ((n : Int) + 1).toNat = n + 1 := by omega
  have q5 : ((k : Int) + 1).toNat = k + 1 := by omega
  have q6 : ¬ (cap : Int) < (n : Int) + 1 := by omega
  have j0 : (0 : Int) ≤ (k : Int) + 1 := by omega
  have j1 : (0 : Int) ≤ (n : Int) + 1 := by omega
  have j2 : (k : Int) ≤ (n : Int) := by omega
  have j3 : (k : Int) ≤ (n : Int) + 1 := by omega
  have j4 : (n : Int) + 1 ≤ (cap : Int) := by omega
  have j5 : (k : Int) + 1 ≤ (n : Int) + 1 := by omega
  have k1 : ¬ cap = k := by omega
  have k2 : ¬ cap = k + 1 := by omega
  clear hend f1 f2 b1 b2 hW1 hW2 hC1 hC1l hkl hnews hnl hlen h4 h3 hb hcell hT hTd hblk hv hvd hv1
  go_enter Try.func27, Try.ntmps27
  go_wp2_with (simp only [hov])
  go_region
  go_wp2
  go_ret
  exact ⟨rfl, HEND.out, HF.out⟩
set_option maxRecDepth 100000 in
set_option maxHeartbeats 4000000 in
/-- slices.Insert ahead of others, where there is no room. -/
theorem insert_grow (base g cap : Nat) (cur : Array Value) (L : List (Nat × Nat)) (k : Nat) (x : Nat × Nat) (vb vc : Nat) (w : World) (hg : base ≤ g) (hb : Blk w g cur 45) (h1 : L.length = cap) (hL : L.length ≤ 1000000) (h3 : cur.size = cap * 2) (h4 : cur.toList.take (L.length * 2) = flatP L)
    (hk : k < L.length) (hv : Blk w vb (pairCells x).toArray 45) (hbase : base ≤ w.heap.size) :
    Calls Try.prog 27 #[.slice (some ⟨g, 0, none⟩) L.length cap, .int .i64 k, .slice (some ⟨vb, 0, none⟩) 1 vc] w fun e w' => ∃ c', e = .returned (.slice (some ⟨w.heap.size, 0, none⟩) (L.length + 1) c') ∧ PairsAt base w' (.slice (some ⟨w.heap.size, 0, none⟩) (L.length + 1) c') (L.take k ++ x :: L.drop k) ∧ Fr Nil w w' := by
  obtain ⟨n, hn⟩ : ∃ n, L.length = n := ⟨_, rfl⟩
  rw [hn] at h1 h4 hk hL ⊢
  subst h1
  obtain ⟨i0, hi, hz0, hz1, hz2⟩ := info_parts infoPair
  have hsz : (Try.prog.info? 45).map (·.size) = some 2 := by rw [hi]; simp [hz1]
  have hT : cur.toList = flatP L := by rw [← h4, List.take_of_length_le (by simpa using Nat.le_of_eq h3)]
  have hbd : Blk w.drew g cur 45 := hb
  have hcell : ∀ j, w.drew.cell? ⟨g, j, none⟩ = (flatP L)[j]? := fun j => by rw [hbd.cell, ← hT, Array.getElem?_toList]
  have hold : (Builtin.firstCells i0.size k (.slice (some ⟨g, 0, none⟩) k n)).run Try.prog w.drew = .ok (flatP (L.take k)).toArray w.drew := by
    rw [hz1]
    exact run_firstCells_some w.drew 2 k ⟨g, 0, none⟩ k n (flatP (L.take k)) (by rw [flatP_len, List.length_take]; omega) (fun j u hj => by
      have hjl := (List.getElem?_eq_some_iff.1 hj).1
      rw [flatP_len, List.length_take] at hjl
      rw [add_head, hcell]
      rw [← flatP_take, List.getElem?_take] at hj
      split at hj
      · exact hj
      · cases hj)
  obtain ⟨G, hG⟩ : ∃ G, grownCap w (n + 1) n 45 = G := ⟨_, rfl⟩
  have hGn : n + 1 ≤ G := by rw [← hG]; exact grownCap_ge w _ _ _
  have hGm : G ≤ maxLen := by
    rw [← hG]
    exact grownCap_le_maxLen w (n + 1) n 45 (by unfold maxLen; omega)
  obtain ⟨ROW, hROW⟩ : ∃ ROW : Array Value, (flatP (L.take k)).toArray ++ Builtin.zeroCells (Value.agg #[Value.int IntKind.i64 0, Value.int IntKind.i64 0]).cells (n + 1 - k) ++ Builtin.zeroCells (Value.agg #[Value.int IntKind.i64 0, Value.int IntKind.i64 0]).cells (G - (n + 1)) = ROW := ⟨_, rfl⟩
  have hgr : ∀ ty, (Builtin.append_ #[38, 3] ty #[.slice (some ⟨g, 0, none⟩) k n, .int .i64 ((n : Int) + 1 - (k : Int))]).run Try.prog w = .ok (.slice (some ⟨w.heap.size, 0, none⟩) (n + 1) G) (w.drew.alloc (.cells ROW 45)) := fun ty => by
    have h := Lib.run_append_grow_zeros (P := Try.prog) w 38 3 ty 45 i0 _ .i64 .i64 Try.underlying38 Try.underlying3 hi hz0 (some ⟨g, 0, none⟩) k n (flatP (L.take k)) hold (n + 1 - k) (by omega) (by omega) (by omega) (by omega) (by rw [hz2]; omega) (by rw [hz2]; exact growslice_fits (by omega) (by omega))
    rw [show k + (n + 1 - k) = n + 1 by omega, hG, hROW] at h
    rw [show (n : Int) + 1 - (k : Int) = ((n + 1 - k : Nat) : Int) by omega]
    exact h
  have hRl : ROW.size = G * 2 := by
    rw [← hROW]
    simp [Builtin.zeroCells, Value.cells, flatP_len]
    omega
  have hRt : ROW.toList.take (k * 2) = flatP (L.take k) := by
    rw [← hROW]
    simp only [Array.toList_append, List.toList_toArray]
    rw [List.append_assoc]
    exact List.take_left' (by rw [flatP_len, List.length_take]; omega)
  obtain ⟨N, hN⟩ : ∃ N, w.heap.size = N := ⟨_, rfl⟩
  have b1 : Blk (w.drew.alloc (.cells ROW 45)) N ROW 45 := by rw [← hN]; exact Blk.new w.drew ROW _
  have f1 : Fr Nil w (w.drew.alloc (.cells ROW 45)) := ((Fr.refl _ w).drew).alloc _
  obtain ⟨W1, hW1⟩ : ∃ W1, w.drew.alloc (.cells ROW 45) = W1 := ⟨_, rfl⟩
  simp only [hW1, hN] at hgr b1 f1
  have hgl := hb.lt
  have hvl := hv.lt
  have hv1 := f1.blk hv (fun q => q)
  have hg1 := f1.blk hb (fun q => q)
  have hx2 : (pairCells x).length = 2 := rfl
  have b2 := setCells_blk (pairCells x) (k * 2) W1 ROW b1 (by rw [hx2, hRl]; omega)
  have f2 : Fr Nil w (W1.setCells N (k * 2) (pairCells x)) := f1.trans (setCells_fr N (pairCells x) (k * 2) W1) (fun b hb q => by have q' : b = N := q; omega)
  have g2 := (setCells_fr N (pairCells x) (k * 2) W1).blk hg1 (by omega)
  obtain ⟨W2, hW2⟩ : ∃ W2, W1.setCells N (k * 2) (pairCells x) = W2 := ⟨_, rfl⟩
  have hcp1 : ∀ dc ty, (Builtin.copy_ #[38, 38] ty #[.slice (some ⟨N, k * 2, none⟩) (n + 1 - k) dc, .slice (some ⟨vb, 0, none⟩) 1 vc]).run Try.prog W1 = .ok (goInt (Nat.min 1 (n + 1 - k))) W2 := fun dc ty => by
    rw [← hW2]
    exact run_copy_many W1 _ _ ty 45 2 N (k * 2) (n + 1 - k) dc ⟨vb, 0, none⟩ 1 vc (pairCells x) Try.underlying38 hsz (by rw [show Nat.min 1 (n + 1 - k) = 1 from Nat.min_eq_left (by omega)]; rfl)
      (fun j u hj => by rw [add_at, Nat.zero_add, hv1.cell]; simpa using hj)
      (fun j hj => by simp [pairCells] at hj; rw [b1.cell, Array.getElem?_eq_getElem (by rw [hRl]; omega)]; rfl) (fun j _ => b1.free _) (by intro u hu; simp [pairCells] at hu; rcases hu with rfl | rfl <;> rfl)
  rw [hW2] at b2 f2 g2
  obtain ⟨C2, hC2⟩ : ∃ C2, (layL ROW.toList (k * 2) (pairCells x)).toArray = C2 := ⟨_, rfl⟩
  have hC2l : C2.size = G * 2 := by rw [← hC2, ← hRl]; simpa using layL_len ROW.toList (k * 2) (pairCells x) (by rw [hx2]; simp [hRl]; omega)
  have hC2t : C2.toList.take ((k + 1) * 2) = flatP (L.take k) ++ pairCells x := by
    have e := layL_take ROW.toList (k * 2) (pairCells x) (by rw [hx2]; simp [hRl]; omega)
    rw [hx2, show k * 2 + 2 = (k + 1) * 2 by omega] at e
    rw [← hC2, ← hRt]
    exact e
  rw [hC2] at b2
  obtain ⟨news, hnews⟩ : ∃ news, flatP (L.drop k) = news := ⟨_, rfl⟩
  have hnl : news.length = (n - k) * 2 := by rw [← hnews, flatP_len, List.length_drop, hn]
  have b2d : Blk W2.drew N C2 45 := b2
  have g2d : Blk W2.drew g cur 45 := g2
  have b3 := setCells_blk news ((k + 1) * 2) W2.drew C2 b2d (by rw [hnl, hC2l]; omega)
  have f3 : Fr Nil w (W2.drew.setCells N ((k + 1) * 2) news) := f2.drew.trans (setCells_fr N news ((k + 1) * 2) W2.drew) (fun b hb q => by have q' : b = N := q; omega)
  obtain ⟨W3, hW3⟩ : ∃ W3, W2.drew.setCells N ((k + 1) * 2) news = W3 := ⟨_, rfl⟩
  have hcp2 : ∀ dc sc ty, (Builtin.copy_ #[38, 38] ty #[.slice (some ⟨N, (k + 1) * 2, none⟩) (n - k) dc, .slice (some ⟨g, k * 2, none⟩) (n - k) sc]).run Try.prog W2.drew = .ok (goInt (Nat.min (n - k) (n - k))) W3 := fun dc sc ty => by
    rw [← hW3]
    exact run_copy_many W2.drew _ _ ty 45 2 N ((k + 1) * 2) (n - k) dc ⟨g, k * 2, none⟩ (n - k) sc news Try.underlying38 hsz (by rw [hnl, show Nat.min (n - k) (n - k) = n - k from Nat.min_self _])
      (fun j u hj => by
        have hjl : j < (n - k) * 2 := by rw [← hnl]; exact (List.getElem?_eq_some_iff.1 hj).1
        rw [add_at, g2d.cell, ← Array.getElem?_toList, hT, ← List.getElem?_drop, flatP_drop, hnews]
        exact hj)
      (fun j hj => by rw [hnl] at hj; rw [b2d.cell, Array.getElem?_eq_getElem (by rw [hC2l]; omega)]; rfl) (fun j _ => b2d.free _) (by rw [← hnews]; exact flatP_one _)
  rw [hW3] at b3 f3
  have hend : PairsAt base W3 (.slice (some ⟨N, 0, none⟩) (n + 1) G) (L.take k ++ x :: L.drop k) := by
    have hel : (L.take k ++ x :: L.drop k).length = n + 1 := by simp; omega
    refine PairsAt.mk hel.symm (by omega) b3 (by omega) hGm ?_ ?_
    · simp
      rw [layL_len _ _ _ (by rw [hnl]; simp [hC2l]; omega)]
      simpa using hC2l
    · rw [hel]
      simp only [List.toList_toArray]
      have e := layL_take C2.toList ((k + 1) * 2) news (by rw [hnl]; simp [hC2l]; omega)
      rw [hnl, show (k + 1) * 2 + (n - k) * 2 = (n + 1) * 2 by omega] at e
      rw [e, hC2t, ← hnews, flatP_append, flatP_cons, List.append_assoc]
  have HGR := Lib.hid hgr
  have HEND := Lib.hid hend
  have HF := Lib.hid f3
  have q1 : ¬ (k : Int) = (n : Int) := by omega
  have q2 : IntKind.i64.wrap ((n : Int) + 1) = (n : Int) + 1 := by rw [IntKind.wrap_i64]; omega
  have q3 : IntKind.i64.wrap ((k : Int) + 1) = (k : Int) + 1 := by rw [IntKind.wrap_i64]; omega
  have q3' : IntKind.i64.wrap ((n : Int) + 1 - (k : Int)) = (n : Int) + 1 - (k : Int) := by rw [IntKind.wrap_i64]; omega
  have q5 : ((k : Int) + 1).toNat = k + 1 := by omega
  have q6 : (n : Int) < (n : Int) + 1 := by omega
  have hG63 : G ≤ 9223372036854775807 := by unfold maxLen at hGm; omega
  have j0 : (0 : Int) ≤ (k : Int) + 1 := by omega
  have j2 : (k : Int) ≤ (n : Int) := by omega
  have j3 : (k : Int) ≤ (n : Int) + 1 := by omega
  have j5 : (k : Int) + 1 ≤ (n : Int) + 1 := by omega
  have k1 : ¬ G = k := by omega
  have k2 : ¬ G = k + 1 := by omega
  have k3 : ¬ n = k := by omega
  clear hgr hend f1 f2 f3 b1 b2 b2d b3 g2 g2d hg1 hW1 hW2 hW3 hC2 hC2l hC2t hRl hRt hROW hnews hnl h4 h3 hb hcell hT hbd hv hv1 hold
  rw [hN]
  go_enter Try.func27, Try.ntmps27
  go_wp2_with (at_builtin; refine wpList_append_eq rfl _ _ 38 3 rfl _ _ rfl rfl _ _ HGR.out ?_)
  go_region
  go_wp2
  go_ret
  exact ⟨G, rfl, HEND.out, HF.out⟩
/-- slices.Insert of one. -/
theorem insert_any (base : Nat) (v : Value) (L : List (Nat × Nat)) (k : Nat) (x : Nat × Nat) (vb vc : Nat) (w : World) (h : PairsAt base w v L) (hk : k ≤ L.length) (hv : Blk w vb (pairCells x).toArray 45) (hne : v.ownBlock ≠ some vb) (hL : L.length ≤ 1000000) (hbase : base ≤ w.heap.size) :
    Calls Try.prog 27 #[v, .int .i64 k, .slice (some ⟨vb, 0, none⟩) 1 vc] w fun e w' => ∃ v', e = .returned v' ∧ PairsAt base w' v' (L.take k ++ x :: L.drop k) ∧ (v'.ownBlock = v.ownBlock ∨ v'.ownBlock = some w.heap.size) ∧ Fr (fun b => v.ownBlock = some b) w w' := by
  rcases Nat.lt_or_ge k L.length with hlt | hge
  · rcases h.2 with ⟨rfl, hz⟩ | ⟨g, cap, cur, rfl, hg, hb, h1, h2, h3, h4⟩
    · omega
    · have hne' : vb ≠ g := fun q => hne (by rw [q]; rfl)
      rcases Nat.lt_or_ge L.length cap with hc | hc
      · refine (insert_room base g cap cur L k x vb vc w hg hb hc h2 h3 h4 hlt hv hne').mono ?_
        rintro e w' ⟨rfl, r, f⟩
        exact ⟨_, rfl, r, .inl rfl, f.mono fun b _ q => by rw [show b = g from q]; rfl⟩
      · refine (insert_grow base g cap cur L k x vb vc w hg hb (by omega) hL h3 h4 hlt hv hbase).mono ?_
        rintro e w' ⟨c', rfl, r, f⟩
        exact ⟨_, rfl, r, .inr rfl, f.of_nil⟩
  · obtain rfl : k = L.length := by omega
    rw [ins_end]
    exact insert_end base v L x vb vc w h hv hL hbase
end Go.Proofs.Ytjcnbfiholcjkaa
