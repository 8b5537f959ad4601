/-
  The program's shower (layer 9): a kid, a name, a number, a constructor, an application, an operation, given the texts of what lies within. Conditions: the tables that Go's library reads.
  The program's shower (layer 9): an application, an operation, given the texts of what lies within. Conditions: the tables that Go's library reads.
  The program's shower (layer 9): an operation, given the texts of what lies within. Conditions: the tables that Go's library reads.
-/
import Derived.Test.YtpjlibbdngnnnaaDoorPsA
import Derived.Deep.RegionHeld3
namespace Go.Proofs.YtpjlibbdngnnnaaDoor
set_option linter.unusedSimpArgs false
set_option linter.unusedVariables false
open Go.RowKit

theorem pre_call {P : Program} {f : Nat} {args : Array Value} {w : World} {Q : Ending → World → Prop} {b : Nat} {cs : Array Value} {t : TypeId} (h : Blk w b cs t) (k : Blk w b cs t → Calls P f args w Q) : Calls P f args w Q := k h
theorem is_app {P : Program} {ops : Array Oper} {o : Oper} {a : Act} {w : World} {K : Act → World → Prop} {Q : Exit → Act → World → Prop} {E : Prop} (s x : Operand) (t : TypeId) (hop : o.op = Op.call { callee := Callee.builtin Builtin.append, args := #[s, x], argTypes := #[t, t] })
    (k : if Region.wanted o (yielded ops a.tmps) = true then Oper.wp P o a w K Q else E) : if Region.wanted o (yielded ops a.tmps) = true then Oper.wp P o a w K Q else E := k
theorem pre_blk {P : Program} {ops : Array Oper} {o : Oper} {a : Act} {w : World} {K : Act → World → Prop} {Q : Exit → Act → World → Prop} {E : Prop} {b : Nat} {cs : Array Value} {t : TypeId} (h : Blk w b cs t)
    (k : Blk w b cs t → (if Region.wanted o (yielded ops a.tmps) = true then Oper.wp P o a w K Q else E)) : if Region.wanted o (yielded ops a.tmps) = true then Oper.wp P o a w K Q else E := k h
theorem owns_one {w : World} {base k : Nat} {v : Value} {e : TypeId} (h : Blk w k #[v] e) (hb : base ≤ k) : w.ownsRow base e 1 (.slice (some ⟨k, 0, none⟩) 1 1) 1 [v] :=
  ⟨rfl, .inr ⟨k, 1, _, rfl, hb, h, Nat.le_refl _, by unfold maxLen; omega, rfl, rfl⟩⟩
theorem owns_none {w : World} {base k : Nat} {e : TypeId} (h : Blk w k #[] e) (hb : base ≤ k) : w.ownsRow base e 1 (.slice (some ⟨k, 0, none⟩) 0 0) 0 [] :=
  ⟨by simp, .inr ⟨k, 0, #[], rfl, hb, h, Nat.le_refl _, by unfold maxLen; omega, by simp, by simp⟩⟩
theorem owns_rowS {w : World} {base n : Nat} {v : Value} {l : List (List UInt8)} (h : w.ownsRow base 9 1 v n (strC l)) (hn : l.length = n) : RowS (fun _ => False) w v l := RowS.of_own (by rw [hn]; exact h) (fun b q => q.elim)
theorem strC_one (l : List (List UInt8)) : ∀ u ∈ strC l, u.oneCell' = true := fun u hu => by
  unfold strC at hu
  obtain ⟨x, _, rfl⟩ := List.mem_map.1 hu
  rfl
theorem strC_app (a b : List (List UInt8)) : strC (a ++ b) = strC a ++ strC b := by simp [strC]
theorem strC_len (l : List (List UInt8)) : (strC l).length = l.length := by simp [strC]
/-- A row of texts, wherever it lies, as what is appended. -/
theorem rows_src {X : Nat → Prop} {w : World} {a : Option Addr} {n c : Nat} {l : List (List UInt8)} (h : RowS X w (.slice a n c) l) (hn : l.length = n) : Src w a n 1 (strC l) := by
  subst hn
  cases l with
  | nil =>
    obtain ⟨a1, c1, e, h1, h2, hc⟩ := h
    cases a with
    | none => exact .inl ⟨rfl, rfl, rfl⟩
    | some ad => exact .inr ⟨ad, rfl, rfl, fun j u hj => by simp [strC] at hj⟩
  | cons x r =>
    obtain ⟨b, off, e, _, _⟩ := RowS.cell h 0 (by simp)
    subst e
    refine .inr ⟨_, rfl, by rw [strC_len, Nat.mul_one], fun j u hj => ?_⟩
    have hjl : j < (x :: r).length := by
      have := (List.getElem?_eq_some_iff.1 hj).1
      rw [strC_len] at this
      exact this
    obtain ⟨b', off', e', _, hc⟩ := RowS.cell h j hjl
    cases e'
    have e2 : u = .string ⟨((x :: r)[j]).toArray⟩ := by
      unfold strC at hj
      rw [List.getElem?_map, List.getElem?_eq_getElem hjl] at hj
      simpa using hj.symm
    rw [e2]
    cases j with
    | zero => simpa [Addr.add] using hc
    | succ j => simpa [Addr.add] using hc
theorem lenS_join {l : List (List UInt8)} {z : Nat} (h : lenS l ≤ z) : (joinS l).length ≤ z := Nat.le_trans (joinS_le l) h
theorem len_lenS : ∀ l : List (List UInt8), l.length ≤ lenS l
  | [] => Nat.le_refl _
  | x :: l => by have := len_lenS l; rw [lenS_cons, List.length_cons]; omega
set_option maxRecDepth 100000 in
set_option maxHeartbeats 4000000 in
theorem pkid_any {w : World} {cs : List Value} {k : Nat} {nm : List UInt8} {fl : Bool} {bi : Nat} {ps : List (List UInt8)} {ks : List TE} {bs : List TB} {al : List TA} (h : EAt (fun _ => False) w cs (.mk k nm fl bi ps ks bs al)) (hE : ∀ e ∈ ks, PsOk e) (hs : svK ks) (hz : zK ks ≤ 50000000) (hT : Tabs w) :
    Calls Tryd.prog 80 #[.agg cs.toArray, .int .i64 0] w fun r w' => r = .returned (.string ⟨(swX prF ks).toArray⟩) ∧ Fr Nil w w' := by
  obtain ⟨a0, c0, a1, c1, a2, c2, a3, c3, kc, bc, ac, rfl, hp, hk, hk2, hb, hb2, ha, ha2⟩ := h.opened
  obtain ⟨nk, hnk⟩ : ∃ nk, ks.length = nk := ⟨_, rfl⟩
  obtain ⟨nb, hnb⟩ : ∃ nb, bs.length = nb := ⟨_, rfl⟩
  obtain ⟨na, hna⟩ : ∃ na, al.length = na := ⟨_, rfl⟩
  obtain ⟨np, hnp⟩ : ∃ np, ps.length = np := ⟨_, rfl⟩
  rw [hnk] at hk
  rw [hnb] at hb
  rw [hna] at ha
  have hp' : RowS (fun _ => False) w (.slice a0 np c0) ps := by rw [← hnp]; exact hp
  have hk9 := hk.lenX
  have hb9 := hb.lenX
  have ha9 := ha.lenX
  cases ks with
  | nil =>
    obtain rfl : nk = 0 := by rw [← hnk]; rfl
    rw [swX]
    rw [show ([] : List TE).length = 0 from rfl, hnb, hna, hnp]
    clear h hp hp' hk hk2 hb hb2 ha ha2 hE hs hz hT hnk
    go_enter Tryd.func80, Tryd.ntmps80
    go_wp2
    go_ret
    exact ⟨rfl, by (repeat (first | (with_reducible exact Fr.refl _ _) | (with_reducible assumption) | (with_reducible exact Fr.of_nil (by assumption)) | (with_reducible refine Fr.drew ?_) | (with_reducible refine Fr.drewN ?_ _) | (with_reducible refine Fr.alloc ?_ _) | (with_reducible refine Fr.set ?_ _ _ (by first | (intros; omega) | (simp; done) | (simp; omega))) | (with_reducible refine Fr.via ?_ (by assumption)) | (with_reducible refine Fr.comp ?_ (by assumption))))⟩
  | cons e0 l =>
    obtain ⟨m, hm⟩ : ∃ m, l.length = m := ⟨_, rfl⟩
    have hnk1 : nk = m + 1 := by rw [← hnk, ← hm]; rfl
    subst hnk1
    rw [swX]
    have hE0 : EAt (fun _ => False) w (kc 0) e0 := hk2 0 (by simp)
    obtain ⟨kA, nA, fA, bA, a0A, n0A, c0A, a1A, n1A, c1A, a2A, n2A, c2A, a3A, n3A, c3A, ecA⟩ := hE0.formE
    obtain ⟨b, off, e', _, hc⟩ := hk.at (i := 0) (by omega)
    subst e'
    rw [ecA] at hc hE0
    have hz0 : zE e0 ≤ 50000000 := by have := zK_mem (e := e0) (ks := e0 :: l) (by simp); omega
    have hex : ∀ w', Fr Nil w w' → Calls Tryd.prog 17 #[.agg #[.int .i64 kA, .string nA, .bool fA, .int .u64 bA, .slice a0A n0A c0A, .slice a1A n1A c1A, .slice a2A n2A c2A, .slice a3A n3A c3A]] w' fun r w2 => r = .returned (.string ⟨(swE prF e0).toArray⟩) ∧ Fr Nil w' w2 := fun w' f => hE e0 (by simp) w' _ (hE0.frN f) hs.1 hz0 (hT.fr f)
    have HA := Lib.hid hex
    rw [hnk, hnb, hna, hnp]
    have y0 := hc 0 _ rfl
    have y1 := hc 1 _ rfl
    have y2 := hc 2 _ rfl
    have y3 := hc 3 _ rfl
    have y4 := hc 4 _ rfl
    have y5 := hc 5 _ rfl
    have y6 := hc 6 _ rfl
    have y7 := hc 7 _ rfl
    simp only [Nat.add_zero, Nat.zero_mul] at y0 y1 y2 y3 y4 y5 y6 y7
    have yl := World.block_lt_of_cell? _ _ y0
    clear h hp hp' hk hk2 hb hb2 ha ha2 hE hs hz hT hnk hex hz0 hE0 hc ecA
    have m1 : ¬ (m : Int) + 1 ≤ 0 := by omega
    have m2 : (0 : Int) < (m : Int) + 1 := by omega
    go_enter Tryd.func80, Tryd.ntmps80
    go_wp2_with fail
    refine (HA.out _ (by (repeat (first | (with_reducible exact Fr.refl _ _) | (with_reducible assumption) | (with_reducible exact Fr.of_nil (by assumption)) | (with_reducible refine Fr.drew ?_) | (with_reducible refine Fr.drewN ?_ _) | (with_reducible refine Fr.alloc ?_ _) | (with_reducible refine Fr.set ?_ _ _ (by first | (intros; omega) | (simp; done) | (simp; omega))) | (with_reducible refine Fr.via ?_ (by assumption)) | (with_reducible refine Fr.comp ?_ (by assumption)))))).mono ?_
    rintro r w2 ⟨rfl, f2⟩
    have HF : Hid (Fr Nil w w2) := Lib.hid (Fr.comp (S := Nil) (by (repeat (first | (with_reducible exact Fr.refl _ _) | (with_reducible assumption) | (with_reducible exact Fr.of_nil (by assumption)) | (with_reducible refine Fr.drew ?_) | (with_reducible refine Fr.drewN ?_ _) | (with_reducible refine Fr.alloc ?_ _) | (with_reducible refine Fr.set ?_ _ _ (by first | (intros; omega) | (simp; done) | (simp; omega))) | (with_reducible refine Fr.via ?_ (by assumption)) | (with_reducible refine Fr.comp ?_ (by assumption))))) f2)
    clear f2
    go_wp2
    go_ret
    exact ⟨rfl, HF.out⟩
set_option maxRecDepth 100000 in
set_option maxHeartbeats 4000000 in
theorem pname_any {w : World} {cs : List Value} {k : Nat} {nm : List UInt8} {fl : Bool} {bi : Nat} {ps : List (List UInt8)} {ks : List TE} {bs : List TB} {al : List TA} (h : EAt (fun _ => False) w cs (.mk k nm fl bi ps ks bs al)) :
    Calls Tryd.prog 38 #[.agg cs.toArray] w fun r w' => r = .returned (.string ⟨nm.toArray⟩) ∧ Fr Nil w w' := by
  obtain ⟨a0, c0, a1, c1, a2, c2, a3, c3, kc, bc, ac, rfl, hp, hk, hk2, hb, hb2, ha, ha2⟩ := h.opened
  obtain ⟨nk, hnk⟩ : ∃ nk, ks.length = nk := ⟨_, rfl⟩
  obtain ⟨nb, hnb⟩ : ∃ nb, bs.length = nb := ⟨_, rfl⟩
  obtain ⟨na, hna⟩ : ∃ na, al.length = na := ⟨_, rfl⟩
  obtain ⟨np, hnp⟩ : ∃ np, ps.length = np := ⟨_, rfl⟩
  rw [hnk] at hk
  rw [hnb] at hb
  rw [hna] at ha
  have hp' : RowS (fun _ => False) w (.slice a0 np c0) ps := by rw [← hnp]; exact hp
  have hk9 := hk.lenX
  have hb9 := hb.lenX
  have ha9 := ha.lenX
  rw [hnk, hnb, hna, hnp]
  clear h hp hp' hk hk2 hb hb2 ha ha2
  go_enter Tryd.func38, Tryd.ntmps38
  go_wp2
  go_ret
  exact ⟨rfl, by (repeat (first | (with_reducible exact Fr.refl _ _) | (with_reducible assumption) | (with_reducible exact Fr.of_nil (by assumption)) | (with_reducible refine Fr.drew ?_) | (with_reducible refine Fr.drewN ?_ _) | (with_reducible refine Fr.alloc ?_ _) | (with_reducible refine Fr.set ?_ _ _ (by first | (intros; omega) | (simp; done) | (simp; omega))) | (with_reducible refine Fr.via ?_ (by assumption)) | (with_reducible refine Fr.comp ?_ (by assumption))))⟩
set_option maxRecDepth 100000 in
set_option maxHeartbeats 4000000 in
theorem pnumber_any {w : World} {cs : List Value} {k : Nat} {nm : List UInt8} {fl : Bool} {bi : Nat} {ps : List (List UInt8)} {ks : List TE} {bs : List TB} {al : List TA} (h : EAt (fun _ => False) w cs (.mk k nm fl bi ps ks bs al)) (hb64 : bi < 18446744073709551616) (hT : Tabs w) :
    Calls Tryd.prog 40 #[.agg cs.toArray] w fun r w' => r = .returned (.string ⟨(numT (prF fl bi)).toArray⟩) ∧ Fr Nil w w' := by
  obtain ⟨a0, c0, a1, c1, a2, c2, a3, c3, kc, bc, ac, rfl, hp, hk, hk2, hb, hb2, ha, ha2⟩ := h.opened
  obtain ⟨nk, hnk⟩ : ∃ nk, ks.length = nk := ⟨_, rfl⟩
  obtain ⟨nb, hnb⟩ : ∃ nb, bs.length = nb := ⟨_, rfl⟩
  obtain ⟨na, hna⟩ : ∃ na, al.length = na := ⟨_, rfl⟩
  obtain ⟨np, hnp⟩ : ∃ np, ps.length = np := ⟨_, rfl⟩
  rw [hnk] at hk
  rw [hnb] at hb
  rw [hna] at ha
  have hp' : RowS (fun _ => False) w (.slice a0 np c0) ps := by rw [← hnp]; exact hp
  have hk9 := hk.lenX
  have hb9 := hb.lenX
  have ha9 := ha.lenX
  rw [hnk, hnb, hna, hnp]
  have HN := Lib.hid (fun w' (f : Fr Nil w w') => pnum_any (w := w') fl bi hb64 (hT.fr f))
  clear h hp hp' hk hk2 hb hb2 ha ha2 hT hb64
  go_enter Tryd.func40, Tryd.ntmps40
  go_wp2_with fail
  refine (HN.out _ (by (repeat (first | (with_reducible exact Fr.refl _ _) | (with_reducible assumption) | (with_reducible exact Fr.of_nil (by assumption)) | (with_reducible refine Fr.drew ?_) | (with_reducible refine Fr.drewN ?_ _) | (with_reducible refine Fr.alloc ?_ _) | (with_reducible refine Fr.set ?_ _ _ (by first | (intros; omega) | (simp; done) | (simp; omega))) | (with_reducible refine Fr.via ?_ (by assumption)) | (with_reducible refine Fr.comp ?_ (by assumption)))))).mono ?_
  rintro r w2 ⟨rfl, f2⟩
  have HF : Hid (Fr Nil w w2) := Lib.hid (Fr.comp (S := Nil) (by (repeat (first | (with_reducible exact Fr.refl _ _) | (with_reducible assumption) | (with_reducible exact Fr.of_nil (by assumption)) | (with_reducible refine Fr.drew ?_) | (with_reducible refine Fr.drewN ?_ _) | (with_reducible refine Fr.alloc ?_ _) | (with_reducible refine Fr.set ?_ _ _ (by first | (intros; omega) | (simp; done) | (simp; omega))) | (with_reducible refine Fr.via ?_ (by assumption)) | (with_reducible refine Fr.comp ?_ (by assumption))))) f2)
  clear f2
  go_wp2
  go_ret
  exact ⟨rfl, HF.out⟩
theorem srcF {w2 w' : World} {A : Option Addr} {m size : Nat} {news : List Value} (h : Src w2 A m size news) (f : Fr Nil w2 w') : Src w' A m size news := by
  rcases h with h | ⟨ad, rfl, hl, hc⟩
  · exact .inl h
  · exact .inr ⟨ad, rfl, hl, fun j u hj => f.cell (hc j u hj) (fun q => q)⟩
set_option maxRecDepth 100000 in
set_option maxHeartbeats 4000000 in
theorem pcon_any {w : World} {cs : List Value} {k : Nat} {nm : List UInt8} {fl : Bool} {bi : Nat} {ps : List (List UInt8)} {ks : List TE} {bs : List TB} {al : List TA} (h : EAt (fun _ => False) w cs (.mk k nm fl bi ps ks bs al)) (hE : ∀ e ∈ ks, PsOk e) (hs : svK ks) (hz : zK ks ≤ 50000000) (hT : Tabs w) (hnl : nm.length ≤ 50000000) :
    Calls Tryd.prog 39 #[.agg cs.toArray] w fun r w' => r = .returned (.string ⟨(joinS (nm :: swK prF ks)).toArray⟩) ∧ Fr Nil w w' := by
  obtain ⟨i0, hi, hz0, hz1, hz2⟩ := info_parts infoS
  have hA := fun w' (f : Fr Nil w w') => psatoms_any (h.frN f) hE hs hz (hT.fr f)
  obtain ⟨a0, c0, a1, c1, a2, c2, a3, c3, kc, bc, ac, rfl, hp, hk, hk2, hb, hb2, ha, ha2⟩ := h.opened
  obtain ⟨nk, hnk⟩ : ∃ nk, ks.length = nk := ⟨_, rfl⟩
  obtain ⟨nb, hnb⟩ : ∃ nb, bs.length = nb := ⟨_, rfl⟩
  obtain ⟨na, hna⟩ : ∃ na, al.length = na := ⟨_, rfl⟩
  obtain ⟨np, hnp⟩ : ∃ np, ps.length = np := ⟨_, rfl⟩
  rw [hnk] at hk
  rw [hnb] at hb
  rw [hna] at ha
  have hp' : RowS (fun _ => False) w (.slice a0 np c0) ps := by rw [← hnp]; exact hp
  have hk9 := hk.lenX
  have hb9 := hb.lenX
  have ha9 := ha.lenX
  have hzl := swK_len prF prF_len ks
  obtain ⟨L, hL⟩ : ∃ L, swK prF ks = L := ⟨_, rfl⟩
  have hLn : L.length = nk := by rw [← hL, swK_length]; exact hnk
  simp only [hL, hnk, hnb, hna, hnp] at hA
  rw [hL] at hzl
  have hzL : lenS L ≤ 50000000 := by omega
  have hnk9 : nk ≤ 50000000 := by have := len_lenS L; omega
  rw [hL, hnk, hnb, hna, hnp]
  clear hzl hL
  obtain ⟨W1, hW1⟩ : ∃ W1, w.alloc (.cells #[.int .i64 (k : Int), .string ⟨nm.toArray⟩, .bool fl, .int .u64 (bi : Int), .slice a0 np c0, .slice a1 nk c1, .slice a2 nb c2, .slice a3 na c3] 88) = W1 := ⟨_, rfl⟩
  obtain ⟨T, hTs⟩ : ∃ T, w.heap.size = T := ⟨_, rfl⟩
  have f1 : Fr Nil w W1 := by rw [← hW1]; (repeat (first | (with_reducible exact Fr.refl _ _) | (with_reducible assumption) | (with_reducible exact Fr.of_nil (by assumption)) | (with_reducible refine Fr.drew ?_) | (with_reducible refine Fr.drewN ?_ _) | (with_reducible refine Fr.alloc ?_ _) | (with_reducible refine Fr.set ?_ _ _ (by first | (intros; omega) | (simp; done) | (simp; omega))) | (with_reducible refine Fr.via ?_ (by assumption)) | (with_reducible refine Fr.comp ?_ (by assumption))))
  have b1 : Blk W1 T #[.int .i64 (k : Int), .string ⟨nm.toArray⟩, .bool fl, .int .u64 (bi : Int), .slice a0 np c0, .slice a1 nk c1, .slice a2 nb c2, .slice a3 na c3] 88 := by rw [← hW1, ← hTs]; exact Blk.new _ _ _
  have hsz1 : T < W1.heap.size := b1.lt
  have HK2 : Hid (∀ w', Fr Nil W1 w' → w'.cell? ⟨T, 0, none⟩ = some (.int .i64 (k : Int)) ∧ w'.cell? ⟨T, 1, none⟩ = some (.string ⟨nm.toArray⟩) ∧ w'.cell? ⟨T, 2, none⟩ = some (.bool fl) ∧ w'.cell? ⟨T, 3, none⟩ = some (.int .u64 (bi : Int)) ∧ w'.cell? ⟨T, 4, none⟩ = some (.slice a0 np c0) ∧ w'.cell? ⟨T, 5, none⟩ = some (.slice a1 nk c1) ∧ w'.cell? ⟨T, 6, none⟩ = some (.slice a2 nb c2) ∧ w'.cell? ⟨T, 7, none⟩ = some (.slice a3 na c3)) := Lib.hid (fun w' f => by
    have b := f.blk b1 (fun q => q)
    have z0 := b.cell 0
    have z1 := b.cell 1
    have z2 := b.cell 2
    have z3 := b.cell 3
    have z4 := b.cell 4
    have z5 := b.cell 5
    have z6 := b.cell 6
    have z7 := b.cell 7
    simp at z0 z1 z2 z3 z4 z5 z6 z7
    exact ⟨z0, z1, z2, z3, z4, z5, z6, z7⟩)
  obtain ⟨z0, z1, z2, z3, z4, z5, z6, z7⟩ := HK2.out W1 (Fr.refl _ _)
  have zl := b1.lt
  have HF1 := Lib.hid f1
  have hjn : ∀ (w' : World) (a : Option Addr) (c : Nat), RowS (fun _ => False) w' (.slice a (1 + nk) c) (nm :: L) → Calls Tryd.prog 77 #[.slice a (1 + nk) c] w' fun r w2 => r = .returned (.string ⟨(joinS (nm :: L)).toArray⟩) ∧ Fr Nil w' w2 := fun w' a c hr =>
    pjoin_any hr (by rw [List.length_cons, hLn]; omega) (by rw [lenS_cons]; omega)
  have HX := Lib.hid (And.intro (fun w' (f : Fr Nil W1 w') => hA w' (HF1.out.comp f)) (And.intro hjn hLn))
  clear hA hjn hLn hzL
  clear h hp hp' hk hk2 hb hb2 ha ha2 hE hs hz hT hnk hnb hna hnp f1 b1
  go_enter Tryd.func39, Tryd.ntmps39
  go_upto_region 1 with fail
  try rw [hTs]
  try rw [hW1]
  clear hW1 hTs
  go_region_held3 (fun w' => w'.cell? ⟨T, 0, none⟩ = some (.int .i64 (k : Int)) ∧ w'.cell? ⟨T, 1, none⟩ = some (.string ⟨nm.toArray⟩) ∧ w'.cell? ⟨T, 2, none⟩ = some (.bool fl) ∧ w'.cell? ⟨T, 3, none⟩ = some (.int .u64 (bi : Int)) ∧ w'.cell? ⟨T, 4, none⟩ = some (.slice a0 np c0) ∧ w'.cell? ⟨T, 5, none⟩ = some (.slice a1 nk c1) ∧ w'.cell? ⟨T, 6, none⟩ = some (.slice a2 nb c2) ∧ w'.cell? ⟨T, 7, none⟩ = some (.slice a3 na c3)) (with_reducible refine HK2.out _ ?_; (first | assumption | exact HG7.out | exact HR.out.2 | exact HO.out.2 | (refine HG7.out.comp ?_; ((repeat (first | (with_reducible exact Fr.refl _ _) | (with_reducible assumption) | (with_reducible exact Fr.of_nil (by assumption)) | (with_reducible refine Fr.drew ?_) | (with_reducible refine Fr.drewN ?_ _) | (with_reducible refine Fr.alloc ?_ _) | (with_reducible refine Fr.set ?_ _ _ (by first | (intros; omega) | (simp; done) | (simp; omega))) | (with_reducible refine Fr.via ?_ (by assumption)) | (with_reducible refine Fr.comp ?_ (by assumption))))); done) | (refine HR.out.2.comp ?_; ((repeat (first | (with_reducible exact Fr.refl _ _) | (with_reducible assumption) | (with_reducible exact Fr.of_nil (by assumption)) | (with_reducible refine Fr.drew ?_) | (with_reducible refine Fr.drewN ?_ _) | (with_reducible refine Fr.alloc ?_ _) | (with_reducible refine Fr.set ?_ _ _ (by first | (intros; omega) | (simp; done) | (simp; omega))) | (with_reducible refine Fr.via ?_ (by assumption)) | (with_reducible refine Fr.comp ?_ (by assumption))))); done) | (refine HO.out.2.comp ?_; ((repeat (first | (with_reducible exact Fr.refl _ _) | (with_reducible assumption) | (with_reducible exact Fr.of_nil (by assumption)) | (with_reducible refine Fr.drew ?_) | (with_reducible refine Fr.drewN ?_ _) | (with_reducible refine Fr.alloc ?_ _) | (with_reducible refine Fr.set ?_ _ _ (by first | (intros; omega) | (simp; done) | (simp; omega))) | (with_reducible refine Fr.via ?_ (by assumption)) | (with_reducible refine Fr.comp ?_ (by assumption))))); done) | (repeat (first | (with_reducible exact Fr.refl _ _) | (with_reducible assumption) | (with_reducible exact Fr.of_nil (by assumption)) | (with_reducible refine Fr.drew ?_) | (with_reducible refine Fr.drewN ?_ _) | (with_reducible refine Fr.alloc ?_ _) | (with_reducible refine Fr.set ?_ _ _ (by first | (intros; omega) | (simp; done) | (simp; omega))) | (with_reducible refine Fr.via ?_ (by assumption)) | (with_reducible refine Fr.comp ?_ (by assumption)))))) (first
    | (go_at_call 78; refine pre_call (b := W1.heap.size) (cs := #[.string ⟨nm.toArray⟩]) (t := 9) ?_ ?_; (focus ((unfold Blk; simp (disch := first | omega | (simp; done) | (simp; omega)) only [hp_drew, hp_drewN, hp_alloc, hp_other, hp_same, hp_new, upd_cells, Option.map_some]); done)); intro p1; refine (HX.out.1 _ (by first | assumption | (repeat (first | (with_reducible exact Fr.refl _ _) | (with_reducible assumption) | (with_reducible exact Fr.of_nil (by assumption)) | (with_reducible refine Fr.drew ?_) | (with_reducible refine Fr.drewN ?_ _) | (with_reducible refine Fr.alloc ?_ _) | (with_reducible refine Fr.set ?_ _ _ (by first | (intros; omega) | (simp; done) | (simp; omega))) | (with_reducible refine Fr.via ?_ (by assumption)) | (with_reducible refine Fr.comp ?_ (by assumption)))))).mono ?_; rintro r w2 ⟨v2, rfl, ho2, f2⟩; have g2 : Fr Nil W1 w2 := Fr.comp (S := Nil) (by first | assumption | (repeat (first | (with_reducible exact Fr.refl _ _) | (with_reducible assumption) | (with_reducible exact Fr.of_nil (by assumption)) | (with_reducible refine Fr.drew ?_) | (with_reducible refine Fr.drewN ?_ _) | (with_reducible refine Fr.alloc ?_ _) | (with_reducible refine Fr.set ?_ _ _ (by first | (intros; omega) | (simp; done) | (simp; omega))) | (with_reducible refine Fr.via ?_ (by assumption)) | (with_reducible refine Fr.comp ?_ (by assumption))))) f2; have HB := Lib.hid (f2.blk p1 (fun q => q)); obtain ⟨va, vc, rfl, hs2⟩ := owns_src ho2; have HO := Lib.hid (And.intro hs2 g2); have s2 := g2.size; clear f2 g2 hs2 ho2 p1)
    | (go_at_call 78; refine (HX.out.1 _ (by first | assumption | (repeat (first | (with_reducible exact Fr.refl _ _) | (with_reducible assumption) | (with_reducible exact Fr.of_nil (by assumption)) | (with_reducible refine Fr.drew ?_) | (with_reducible refine Fr.drewN ?_ _) | (with_reducible refine Fr.alloc ?_ _) | (with_reducible refine Fr.set ?_ _ _ (by first | (intros; omega) | (simp; done) | (simp; omega))) | (with_reducible refine Fr.via ?_ (by assumption)) | (with_reducible refine Fr.comp ?_ (by assumption)))))).mono ?_; rintro r w2 ⟨v2, rfl, ho2, f2⟩; have g2 : Fr Nil W1 w2 := Fr.comp (S := Nil) (by first | assumption | (repeat (first | (with_reducible exact Fr.refl _ _) | (with_reducible assumption) | (with_reducible exact Fr.of_nil (by assumption)) | (with_reducible refine Fr.drew ?_) | (with_reducible refine Fr.drewN ?_ _) | (with_reducible refine Fr.alloc ?_ _) | (with_reducible refine Fr.set ?_ _ _ (by first | (intros; omega) | (simp; done) | (simp; omega))) | (with_reducible refine Fr.via ?_ (by assumption)) | (with_reducible refine Fr.comp ?_ (by assumption))))) f2; obtain ⟨va, vc, rfl, hs2⟩ := owns_src ho2; have HO := Lib.hid (And.intro hs2 g2); have s2 := g2.size; clear f2 g2 hs2 ho2)
    | (refine is_app (.tmp 6) (.tmp 8) 33 rfl ?_; refine pre_blk (b := w2.heap.size) (cs := #[.string ⟨nm.toArray⟩]) (t := 9) ?_ ?_; (focus ((unfold Blk; simp (disch := first | omega | (simp; done) | (simp; omega)) only [hp_drew, hp_drewN, hp_alloc, hp_other, hp_same, hp_new, upd_cells, Option.map_some]); done)); intro p1; refine step_append_src rfl (.tmp 6) (.tmp 8) 33 rfl T 9 i0 (.string ⟨#[]⟩) 1 16 Tryd.underlying33 hi hz0 hz1 hz2 rfl (by decide) (.slice (some ⟨w2.heap.size, 0, none⟩) 1 1) 1 [.string ⟨nm.toArray⟩] (by simp [Act.eval, Act.put]) (owns_one p1 (by omega)) (va) (nk) vc (strC L) (by simp [Act.eval, Act.put]) (srcF (w2 := w2) HO.out.1 (by (repeat (first | (with_reducible exact Fr.refl _ _) | (with_reducible assumption) | (with_reducible exact Fr.of_nil (by assumption)) | (with_reducible refine Fr.drew ?_) | (with_reducible refine Fr.drewN ?_ _) | (with_reducible refine Fr.alloc ?_ _) | (with_reducible refine Fr.set ?_ _ _ (by first | (intros; omega) | (simp; done) | (simp; omega))) | (with_reducible refine Fr.via ?_ (by assumption)) | (with_reducible refine Fr.comp ?_ (by assumption)))))) (strC_one L) (by unfold maxLen; omega) (by omega) (by first | omega | (simp; omega)) ?_; intro u1 w6 hown g6 hk6; have f6 : Fr Nil W1 w6 := Fr.grown (S := Nil) (by first | exact HO.out.2 | exact HO.out.2.comp (by (repeat (first | (with_reducible exact Fr.refl _ _) | (with_reducible assumption) | (with_reducible exact Fr.of_nil (by assumption)) | (with_reducible refine Fr.drew ?_) | (with_reducible refine Fr.drewN ?_ _) | (with_reducible refine Fr.alloc ?_ _) | (with_reducible refine Fr.set ?_ _ _ (by first | (intros; omega) | (simp; done) | (simp; omega))) | (with_reducible refine Fr.via ?_ (by assumption)) | (with_reducible refine Fr.comp ?_ (by assumption)))))) g6 (fun k q hk => by have e : some (w2.heap.size) = some k := q; injection e with e; omega); obtain ⟨ya, yc, rfl⟩ := owns_shape hown; have HR := Lib.hid (And.intro (owns_rowS (l := nm :: L) hown (by rw [List.length_cons, HX.out.2.2]; omega)) f6); clear hown g6 hk6 f6 p1)
    | (refine is_app (.tmp 6) (.tmp 8) 33 rfl ?_; refine pre_blk (b := W1.heap.size) (cs := #[.string ⟨nm.toArray⟩]) (t := 9) ?_ ?_; (focus (refine Fr.blk (S := Nil) ?_ (HB.out) (fun q => q); ((repeat (first | (with_reducible exact Fr.refl _ _) | (with_reducible assumption) | (with_reducible exact Fr.of_nil (by assumption)) | (with_reducible refine Fr.drew ?_) | (with_reducible refine Fr.drewN ?_ _) | (with_reducible refine Fr.alloc ?_ _) | (with_reducible refine Fr.set ?_ _ _ (by first | (intros; omega) | (simp; done) | (simp; omega))) | (with_reducible refine Fr.via ?_ (by assumption)) | (with_reducible refine Fr.comp ?_ (by assumption))))); done)); intro p1; refine step_append_src rfl (.tmp 6) (.tmp 8) 33 rfl T 9 i0 (.string ⟨#[]⟩) 1 16 Tryd.underlying33 hi hz0 hz1 hz2 rfl (by decide) (.slice (some ⟨W1.heap.size, 0, none⟩) 1 1) 1 [.string ⟨nm.toArray⟩] (by simp [Act.eval, Act.put]) (owns_one p1 (by omega)) (va) (nk) vc (strC L) (by simp [Act.eval, Act.put]) (srcF (w2 := w2) HO.out.1 (by (repeat (first | (with_reducible exact Fr.refl _ _) | (with_reducible assumption) | (with_reducible exact Fr.of_nil (by assumption)) | (with_reducible refine Fr.drew ?_) | (with_reducible refine Fr.drewN ?_ _) | (with_reducible refine Fr.alloc ?_ _) | (with_reducible refine Fr.set ?_ _ _ (by first | (intros; omega) | (simp; done) | (simp; omega))) | (with_reducible refine Fr.via ?_ (by assumption)) | (with_reducible refine Fr.comp ?_ (by assumption)))))) (strC_one L) (by unfold maxLen; omega) (by omega) (by first | omega | (simp; omega)) ?_; intro u1 w6 hown g6 hk6; have f6 : Fr Nil W1 w6 := Fr.grown (S := Nil) (by first | exact HO.out.2 | exact HO.out.2.comp (by (repeat (first | (with_reducible exact Fr.refl _ _) | (with_reducible assumption) | (with_reducible exact Fr.of_nil (by assumption)) | (with_reducible refine Fr.drew ?_) | (with_reducible refine Fr.drewN ?_ _) | (with_reducible refine Fr.alloc ?_ _) | (with_reducible refine Fr.set ?_ _ _ (by first | (intros; omega) | (simp; done) | (simp; omega))) | (with_reducible refine Fr.via ?_ (by assumption)) | (with_reducible refine Fr.comp ?_ (by assumption)))))) g6 (fun k q hk => by have e : some (W1.heap.size) = some k := q; injection e with e; omega); obtain ⟨ya, yc, rfl⟩ := owns_shape hown; have HR := Lib.hid (And.intro (owns_rowS (l := nm :: L) hown (by rw [List.length_cons, HX.out.2.2]; omega)) f6); clear hown g6 hk6 f6 p1)
    | (go_at_call 77; refine (HX.out.2.1 _ _ _ (HR.out.1.frN (by first | assumption | (repeat (first | (with_reducible exact Fr.refl _ _) | (with_reducible assumption) | (with_reducible exact Fr.of_nil (by assumption)) | (with_reducible refine Fr.drew ?_) | (with_reducible refine Fr.drewN ?_ _) | (with_reducible refine Fr.alloc ?_ _) | (with_reducible refine Fr.set ?_ _ _ (by first | (intros; omega) | (simp; done) | (simp; omega))) | (with_reducible refine Fr.via ?_ (by assumption)) | (with_reducible refine Fr.comp ?_ (by assumption))))))).mono ?_; rintro r w7 ⟨rfl, f7⟩; have g7 : Fr Nil W1 w7 := HR.out.2.comp (Fr.comp (S := Nil) (by (repeat (first | (with_reducible exact Fr.refl _ _) | (with_reducible assumption) | (with_reducible exact Fr.of_nil (by assumption)) | (with_reducible refine Fr.drew ?_) | (with_reducible refine Fr.drewN ?_ _) | (with_reducible refine Fr.alloc ?_ _) | (with_reducible refine Fr.set ?_ _ _ (by first | (intros; omega) | (simp; done) | (simp; omega))) | (with_reducible refine Fr.via ?_ (by assumption)) | (with_reducible refine Fr.comp ?_ (by assumption))))) f7); have HG7 := Lib.hid g7; clear f7 g7))
  all_goals
    go_wp2
    go_ret
    exact ⟨rfl, HF1.out.comp (by first | assumption | exact HG7.out | (refine HG7.out.comp ?_; ((repeat (first | (with_reducible exact Fr.refl _ _) | (with_reducible assumption) | (with_reducible exact Fr.of_nil (by assumption)) | (with_reducible refine Fr.drew ?_) | (with_reducible refine Fr.drewN ?_ _) | (with_reducible refine Fr.alloc ?_ _) | (with_reducible refine Fr.set ?_ _ _ (by first | (intros; omega) | (simp; done) | (simp; omega))) | (with_reducible refine Fr.via ?_ (by assumption)) | (with_reducible refine Fr.comp ?_ (by assumption))))); done))⟩
end Go.Proofs.YtpjlibbdngnnnaaDoor

namespace Go.Proofs.YtpjlibbdngnnnaaDoor
set_option linter.unusedSimpArgs false
set_option linter.unusedVariables false
open Go.RowKit

theorem owns_blk {w : World} {base size n g cap : Nat} {e : TypeId} {xs : List Value} (h : w.ownsRow base e size (.slice (some ⟨g, 0, none⟩) n cap) n xs) (hn : 0 < n) : ∃ cur, Blk w g cur e := by
  rcases h.2 with ⟨e, h0⟩ | ⟨g', cap', cur, e, hg, hb, _⟩
  · omega
  · cases e
    exact ⟨cur, hb⟩
set_option maxRecDepth 100000 in
set_option maxHeartbeats 4000000 in
theorem papp_any {w : World} {cs : List Value} {k : Nat} {nm : List UInt8} {fl : Bool} {bi : Nat} {ps : List (List UInt8)} {ks : List TE} {bs : List TB} {al : List TA} (h : EAt (fun _ => False) w cs (.mk k nm fl bi ps ks bs al)) (hE : ∀ e ∈ ks, PsOk e) (hs : svK ks) (hz : zK ks ≤ 50000000) (hT : Tabs w) (h1 : ks ≠ []) :
    Calls Tryd.prog 41 #[.agg cs.toArray] w fun r w' => r = .returned (.string ⟨(joinS (headF ks (swK prF ks))).toArray⟩) ∧ Fr Nil w w' := by
  have hA := fun w' (f : Fr Nil w w') => psatoms_any (h.frN f) hE hs hz (hT.fr f)
  obtain ⟨a0, c0, a1, c1, a2, c2, a3, c3, kc, bc, ac, rfl, hp, hk, hk2, hb, hb2, ha, ha2⟩ := h.opened
  obtain ⟨nk, hnk⟩ : ∃ nk, ks.length = nk := ⟨_, rfl⟩
  obtain ⟨nb, hnb⟩ : ∃ nb, bs.length = nb := ⟨_, rfl⟩
  obtain ⟨na, hna⟩ : ∃ na, al.length = na := ⟨_, rfl⟩
  obtain ⟨np, hnp⟩ : ∃ np, ps.length = np := ⟨_, rfl⟩
  rw [hnk] at hk
  rw [hnb] at hb
  rw [hna] at ha
  have hp' : RowS (fun _ => False) w (.slice a0 np c0) ps := by rw [← hnp]; exact hp
  have hk9 := hk.lenX
  have hb9 := hb.lenX
  have ha9 := ha.lenX
  obtain ⟨e0, l, rfl⟩ : ∃ e0 l, ks = e0 :: l := by
    match ks, h1 with
    | e :: l, _ => exact ⟨e, l, rfl⟩
  obtain ⟨m, hm⟩ : ∃ m, l.length = m := ⟨_, rfl⟩
  have hnk1 : nk = m + 1 := by rw [← hnk, ← hm]; rfl
  subst hnk1
  have hE0 : EAt (fun _ => False) w (kc 0) e0 := hk2 0 (by simp)
  obtain ⟨k0, m0, g0, i0, ps0, ks0, bs0, al0⟩ := e0
  obtain ⟨p0, q0, p1, q1, p2, q2, p3, q3, kc0, bc0, ac0, ec0, _, hkk0, _, _, _, _, _⟩ := hE0.opened
  obtain ⟨np0, hnp0⟩ : ∃ n, ps0.length = n := ⟨_, rfl⟩
  obtain ⟨nk0, hnk0⟩ : ∃ n, ks0.length = n := ⟨_, rfl⟩
  obtain ⟨nb0, hnb0⟩ : ∃ n, bs0.length = n := ⟨_, rfl⟩
  obtain ⟨na0, hna0⟩ : ∃ n, al0.length = n := ⟨_, rfl⟩
  rw [hnp0, hnk0, hnb0, hna0] at ec0
  have hk09 : nk0 ≤ 9223372036854775807 := by rw [← hnk0]; exact hkk0.lenX
  obtain ⟨b, off, e', _, hc0⟩ := hk.at (i := 0) (by omega)
  subst e'
  rw [ec0] at hc0
  have hzl := swK_len prF prF_len (.mk k0 m0 g0 i0 ps0 ks0 bs0 al0 :: l)
  have hsl := swK_length (.mk k0 m0 g0 i0 ps0 ks0 bs0 al0 :: l)
  rw [swK] at hzl hsl
  simp only [swK] at hA
  obtain ⟨t, ht⟩ : ∃ t, atomF (.mk k0 m0 g0 i0 ps0 ks0 bs0 al0) (swE prF (.mk k0 m0 g0 i0 ps0 ks0 bs0 al0)) = t := ⟨_, rfl⟩
  obtain ⟨L, hL⟩ : ∃ L, swK prF l = L := ⟨_, rfl⟩
  rw [ht, hL] at hzl hsl
  simp only [ht, hL] at hA
  rw [lenS_cons] at hzl
  have hLn : L.length = m := by rw [List.length_cons, List.length_cons, hm] at hsl; omega
  obtain ⟨x, hx⟩ : ∃ x, (if (decide (nk0 = 0) && (decide (k0 = 2) || decide (k0 = 5))) = true then parF t else t) = x := ⟨_, rfl⟩
  have hR : joinS (headF (.mk k0 m0 g0 i0 ps0 ks0 bs0 al0 :: l) (swK prF (.mk k0 m0 g0 i0 ps0 ks0 bs0 al0 :: l))) = joinS (x :: L) := by
    rw [swK, ht, hL, ← hx]
    have e : ks0.isEmpty = decide (nk0 = 0) := by
      cases ks0 with
      | nil => rw [← hnk0]; rfl
      | cons x l => rw [← hnk0]; simp
    show joinS ((if (ks0.isEmpty && (decide (k0 = 2) || decide (k0 = 5))) = true then parF t else t) :: L) = _
    rw [e]
  have hxl : x.length ≤ t.length + 2 := by
    rw [← hx]
    split
    · simp [parF]
    · omega
  have htl : t.length ≤ 50000000 := by omega
  have hLl : lenS L ≤ 50000000 := by omega
  have hm9 : m ≤ 50000000 := by have := len_lenS L; omega
  rw [hR, hnk, hnb, hna, hnp]
  simp only [hnk, hnb, hna, hnp] at hA
  have hjn : ∀ (w' : World) (a : Option Addr) (c : Nat), RowS (fun _ => False) w' (.slice a (m + 1) c) (x :: L) → Calls Tryd.prog 77 #[.slice a (m + 1) c] w' fun r w2 => r = .returned (.string ⟨(joinS (x :: L)).toArray⟩) ∧ Fr Nil w' w2 := fun w' a c hr =>
    pjoin_any hr (by rw [List.length_cons, hLn]) (by rw [lenS_cons]; omega)
  obtain ⟨W1, hW1⟩ : ∃ W1, w.alloc (.cells #[.int .i64 (k : Int), .string ⟨nm.toArray⟩, .bool fl, .int .u64 (bi : Int), .slice a0 np c0, .slice (some ⟨b, off, none⟩) (m + 1) c1, .slice a2 nb c2, .slice a3 na c3] 88) = W1 := ⟨_, rfl⟩
  obtain ⟨T, hTs⟩ : ∃ T, w.heap.size = T := ⟨_, rfl⟩
  have f1 : Fr Nil w W1 := by rw [← hW1]; (repeat (first | (with_reducible exact Fr.refl _ _) | (with_reducible assumption) | (with_reducible exact Fr.of_nil (by assumption)) | (with_reducible refine Fr.drew ?_) | (with_reducible refine Fr.drewN ?_ _) | (with_reducible refine Fr.alloc ?_ _) | (with_reducible refine Fr.set ?_ _ _ (by first | (intros; omega) | (simp; done) | (simp; omega))) | (with_reducible refine Fr.via ?_ (by assumption)) | (with_reducible refine Fr.comp ?_ (by assumption))))
  have b1 : Blk W1 T #[.int .i64 (k : Int), .string ⟨nm.toArray⟩, .bool fl, .int .u64 (bi : Int), .slice a0 np c0, .slice (some ⟨b, off, none⟩) (m + 1) c1, .slice a2 nb c2, .slice a3 na c3] 88 := by rw [← hW1, ← hTs]; exact Blk.new _ _ _
  have hsz1 : T < W1.heap.size := b1.lt
  have HK2 : Hid (∀ w', Fr Nil W1 w' → w'.cell? ⟨T, 0, none⟩ = some (.int .i64 (k : Int)) ∧ w'.cell? ⟨T, 1, none⟩ = some (.string ⟨nm.toArray⟩) ∧ w'.cell? ⟨T, 2, none⟩ = some (.bool fl) ∧ w'.cell? ⟨T, 3, none⟩ = some (.int .u64 (bi : Int)) ∧ w'.cell? ⟨T, 4, none⟩ = some (.slice a0 np c0) ∧ w'.cell? ⟨T, 5, none⟩ = some (.slice (some ⟨b, off, none⟩) (m + 1) c1) ∧ w'.cell? ⟨T, 6, none⟩ = some (.slice a2 nb c2) ∧ w'.cell? ⟨T, 7, none⟩ = some (.slice a3 na c3)) := Lib.hid (fun w' f => by
    have b := f.blk b1 (fun q => q)
    have z0 := b.cell 0
    have z1 := b.cell 1
    have z2 := b.cell 2
    have z3 := b.cell 3
    have z4 := b.cell 4
    have z5 := b.cell 5
    have z6 := b.cell 6
    have z7 := b.cell 7
    simp at z0 z1 z2 z3 z4 z5 z6 z7
    exact ⟨z0, z1, z2, z3, z4, z5, z6, z7⟩)
  obtain ⟨z0, z1, z2, z3, z4, z5, z6, z7⟩ := HK2.out W1 (Fr.refl _ _)
  have zl := b1.lt
  have HF1 := Lib.hid f1
  have HC0 : Hid (∀ w', Fr Nil W1 w' → w'.cell? ⟨b, off, none⟩ = some (.int .i64 (k0 : Int)) ∧ w'.cell? ⟨b, off + 1, none⟩ = some (.string ⟨m0.toArray⟩) ∧ w'.cell? ⟨b, off + 2, none⟩ = some (.bool g0) ∧ w'.cell? ⟨b, off + 3, none⟩ = some (.int .u64 (i0 : Int)) ∧ w'.cell? ⟨b, off + 4, none⟩ = some (.slice p0 np0 q0) ∧ w'.cell? ⟨b, off + 5, none⟩ = some (.slice p1 nk0 q1) ∧ w'.cell? ⟨b, off + 6, none⟩ = some (.slice p2 nb0 q2) ∧ w'.cell? ⟨b, off + 7, none⟩ = some (.slice p3 na0 q3)) := Lib.hid (fun w' f => ⟨by have h := (f1.comp f).cell (hc0 0 _ rfl) (fun q => q); simpa using h, by have h := (f1.comp f).cell (hc0 1 _ rfl) (fun q => q); simpa using h, by have h := (f1.comp f).cell (hc0 2 _ rfl) (fun q => q); simpa using h, by have h := (f1.comp f).cell (hc0 3 _ rfl) (fun q => q); simpa using h, by have h := (f1.comp f).cell (hc0 4 _ rfl) (fun q => q); simpa using h, by have h := (f1.comp f).cell (hc0 5 _ rfl) (fun q => q); simpa using h, by have h := (f1.comp f).cell (hc0 6 _ rfl) (fun q => q); simpa using h, by have h := (f1.comp f).cell (hc0 7 _ rfl) (fun q => q); simpa using h⟩)
  have HX := Lib.hid (And.intro (fun w' (f : Fr Nil W1 w') => hA w' (HF1.out.comp f)) (And.intro hjn (And.intro hLn hx)))
  clear hA hjn hLn hx hR hzl hsl ht hL hxl hm hE0 ec0 hkk0 hnp0 hnk0 hnb0 hna0 hc0 hLl
  clear h h1 hp hp' hk hk2 hb hb2 ha ha2 hE hs hz hT hnk hnb hna hnp f1 b1
  go_enter Tryd.func41, Tryd.ntmps41
  go_wp2_with fail
  try rw [hTs]
  try rw [hW1]
  clear hW1 hTs
  refine (HX.out.1 _ (Fr.refl _ _)).mono ?_
  rintro r w2 ⟨v2, rfl, ho2, f2⟩
  obtain ⟨g, cap, rfl⟩ := Joins.ownsRow_form ho2 (by omega)
  clear z0 z1 z2 z3 z4 z5 z6 z7 zl
  obtain ⟨z0, z1, z2, z3, z4, z5, z6, z7⟩ := HK2.out w2 f2
  obtain ⟨y0, y1, y2, y3, y4, y5, y6, y7⟩ := HC0.out w2 f2
  have yl := World.block_lt_of_cell? _ _ y0
  have zl := World.block_lt_of_cell? _ _ z0
  obtain ⟨T2, hT2⟩ : ∃ T2, w2.heap.size = T2 := ⟨_, rfl⟩
  obtain ⟨W3, hW3⟩ : ∃ W, w2.alloc (.cells #[.int .i64 (k0 : Int), .string ⟨m0.toArray⟩, .bool g0, .int .u64 (i0 : Int), .slice p0 np0 q0, .slice p1 nk0 q1, .slice p2 nb0 q2, .slice p3 na0 q3] 40) = W := ⟨_, rfl⟩
  have f3 : Fr Nil w2 W3 := by rw [← hW3]; (repeat (first | (with_reducible exact Fr.refl _ _) | (with_reducible assumption) | (with_reducible exact Fr.of_nil (by assumption)) | (with_reducible refine Fr.drew ?_) | (with_reducible refine Fr.drewN ?_ _) | (with_reducible refine Fr.alloc ?_ _) | (with_reducible refine Fr.set ?_ _ _ (by first | (intros; omega) | (simp; done) | (simp; omega))) | (with_reducible refine Fr.via ?_ (by assumption)) | (with_reducible refine Fr.comp ?_ (by assumption))))
  have b3 : Blk W3 T2 #[.int .i64 (k0 : Int), .string ⟨m0.toArray⟩, .bool g0, .int .u64 (i0 : Int), .slice p0 np0 q0, .slice p1 nk0 q1, .slice p2 nb0 q2, .slice p3 na0 q3] 40 := by rw [← hW3, ← hT2]; exact Blk.new _ _ _
  have ho3 := owns_fr ho2 f3
  obtain ⟨cur, hg3⟩ := owns_blk ho3 (by omega)
  have gc := ho3.cellAt 0 (by omega)
  have hgT := (ho3.lt g rfl).1
  have H3 := Lib.hid (And.intro (f2.comp f3) ho3)
  have gl := hg3.lt
  have gf := hg3.free
  have m1 : (0 : Int) < (m : Int) + 1 := by omega
  simp only [strC, List.map_cons, List.getElem?_cons_zero] at gc
  go_upto_region 3 with fail
  try rw [hT2]
  try rw [hW3]
  clear hT2 hW3 f2 f3 ho2 ho3 z0 z1 z2 z3 z4 z5 z6 z7 zl y0 y1 y2 y3 y4 y5 y6 y7 yl hg3
  have v0 := b3.cell 0
  have v1 := b3.cell 1
  have v2 := b3.cell 2
  have v3 := b3.cell 3
  have v4 := b3.cell 4
  have v5 := b3.cell 5
  have v6 := b3.cell 6
  have v7 := b3.cell 7
  simp at v0 v1 v2 v3 v4 v5 v6 v7
  have vl := b3.lt
  clear b3
  by_cases k2 : k0 = 2
  · subst k2
    by_cases n0 : nk0 = 0
    · subst n0
      have ex : x = parF t := by rw [← HX.out.2.2.2]; rfl
      obtain ⟨S1, hS1⟩ : ∃ x, [40] ++ t = x := ⟨_, rfl⟩
      have l1 : S1.length = t.length + 1 := by rw [← hS1]; simp
      have e2 : S1 ++ [41] = x := by rw [ex, ← hS1]; rfl
      have sa1 : ∀ w, (Op.stringOp .add ⟨#[40]⟩ ⟨t.toArray⟩).run Tryd.prog w = .ok (.string ⟨S1.toArray⟩) w := fun w => by rw [← hS1]; exact sadd [40] t (by simp; omega) w
      have sa2 : ∀ w, (Op.stringOp .add ⟨S1.toArray⟩ ⟨#[41]⟩).run Tryd.prog w = .ok (.string ⟨x.toArray⟩) w := fun w => by rw [← e2]; exact sadd S1 [41] (by simp; omega) w
      clear hS1 l1 e2 ex
      go_wp2_with fail
      have ho4 := (H3.out.2.stored 0 (.string ⟨x.toArray⟩)).1
      have f4 : Fr (fun q => q = g) W3 (W3.setCell ⟨g, 0, none⟩ (.string ⟨x.toArray⟩)) := Fr.set (S := fun q => q = g) (Fr.refl _ _) _ _ (fun _ => rfl)
      have F4 : Fr Nil W1 (W3.setCell ⟨g, 0, none⟩ (.string ⟨x.toArray⟩)) := H3.out.1.trans f4 (fun q hq e => by have e' : q = g := e; omega)
      refine (HX.out.2.1 _ _ _ (owns_rowS (l := x :: L) ho4 (by rw [List.length_cons, HX.out.2.2.1]))).mono ?_
      rintro r w5 ⟨rfl, f5⟩
      have HF : Hid (Fr Nil w w5) := Lib.hid (HF1.out.comp (F4.comp f5))
      clear f5 F4 f4 ho4
      go_wp2
      go_ret
      exact ⟨rfl, HF.out⟩
    · have d0 : ((nk0 : Int) == 0) = false := by rw [beq_eq_false_iff_ne]; omega
      have g0 : ¬ (nk0 : Int) = 0 := by omega
      have ex : t = x := by rw [← HX.out.2.2.2]; rw [show decide (nk0 = 0) = false from decide_eq_false n0]; rfl
      go_wp2_with fail
      refine (HX.out.2.1 _ _ _ (owns_rowS (l := x :: L) (by rw [← ex]; exact H3.out.2) (by rw [List.length_cons, HX.out.2.2.1]))).mono ?_
      rintro r w5 ⟨rfl, f5⟩
      have HF : Hid (Fr Nil w w5) := Lib.hid (HF1.out.comp (H3.out.1.comp f5))
      clear f5
      go_wp2
      go_ret
      exact ⟨rfl, HF.out⟩
  by_cases k5 : k0 = 5
  · subst k5
    by_cases n0 : nk0 = 0
    · subst n0
      have ex : x = parF t := by rw [← HX.out.2.2.2]; rfl
      obtain ⟨S1, hS1⟩ : ∃ x, [40] ++ t = x := ⟨_, rfl⟩
      have l1 : S1.length = t.length + 1 := by rw [← hS1]; simp
      have e2 : S1 ++ [41] = x := by rw [ex, ← hS1]; rfl
      have sa1 : ∀ w, (Op.stringOp .add ⟨#[40]⟩ ⟨t.toArray⟩).run Tryd.prog w = .ok (.string ⟨S1.toArray⟩) w := fun w => by rw [← hS1]; exact sadd [40] t (by simp; omega) w
      have sa2 : ∀ w, (Op.stringOp .add ⟨S1.toArray⟩ ⟨#[41]⟩).run Tryd.prog w = .ok (.string ⟨x.toArray⟩) w := fun w => by rw [← e2]; exact sadd S1 [41] (by simp; omega) w
      clear hS1 l1 e2 ex
      go_wp2_with fail
      have ho4 := (H3.out.2.stored 0 (.string ⟨x.toArray⟩)).1
      have f4 : Fr (fun q => q = g) W3 (W3.setCell ⟨g, 0, none⟩ (.string ⟨x.toArray⟩)) := Fr.set (S := fun q => q = g) (Fr.refl _ _) _ _ (fun _ => rfl)
      have F4 : Fr Nil W1 (W3.setCell ⟨g, 0, none⟩ (.string ⟨x.toArray⟩)) := H3.out.1.trans f4 (fun q hq e => by have e' : q = g := e; omega)
      refine (HX.out.2.1 _ _ _ (owns_rowS (l := x :: L) ho4 (by rw [List.length_cons, HX.out.2.2.1]))).mono ?_
      rintro r w5 ⟨rfl, f5⟩
      have HF : Hid (Fr Nil w w5) := Lib.hid (HF1.out.comp (F4.comp f5))
      clear f5 F4 f4 ho4
      go_wp2
      go_ret
      exact ⟨rfl, HF.out⟩
    · have d0 : ((nk0 : Int) == 0) = false := by rw [beq_eq_false_iff_ne]; omega
      have g0 : ¬ (nk0 : Int) = 0 := by omega
      have ex : t = x := by rw [← HX.out.2.2.2]; rw [show decide (nk0 = 0) = false from decide_eq_false n0]; rfl
      go_wp2_with fail
      refine (HX.out.2.1 _ _ _ (owns_rowS (l := x :: L) (by rw [← ex]; exact H3.out.2) (by rw [List.length_cons, HX.out.2.2.1]))).mono ?_
      rintro r w5 ⟨rfl, f5⟩
      have HF : Hid (Fr Nil w w5) := Lib.hid (HF1.out.comp (H3.out.1.comp f5))
      clear f5
      go_wp2
      go_ret
      exact ⟨rfl, HF.out⟩
  have d2 : ((k0 : Int) == 2) = false := by rw [beq_eq_false_iff_ne]; omega
  have d5 : ((k0 : Int) == 5) = false := by rw [beq_eq_false_iff_ne]; omega
  have g2 : ¬ (k0 : Int) = 2 := by omega
  have g5 : ¬ (k0 : Int) = 5 := by omega
  by_cases n0 : nk0 = 0
  · subst n0
    have ex : t = x := by rw [← HX.out.2.2.2]; rw [show decide (k0 = 2) = false from decide_eq_false k2, show decide (k0 = 5) = false from decide_eq_false k5, Bool.or_false, Bool.and_false]; rfl
    go_wp2_with fail
    refine (HX.out.2.1 _ _ _ (owns_rowS (l := x :: L) (by rw [← ex]; exact H3.out.2) (by rw [List.length_cons, HX.out.2.2.1]))).mono ?_
    rintro r w5 ⟨rfl, f5⟩
    have HF : Hid (Fr Nil w w5) := Lib.hid (HF1.out.comp (H3.out.1.comp f5))
    clear f5
    go_wp2
    go_ret
    exact ⟨rfl, HF.out⟩
  · have d0 : ((nk0 : Int) == 0) = false := by rw [beq_eq_false_iff_ne]; omega
    have g0 : ¬ (nk0 : Int) = 0 := by omega
    have ex : t = x := by rw [← HX.out.2.2.2]; rw [show decide (k0 = 2) = false from decide_eq_false k2, show decide (k0 = 5) = false from decide_eq_false k5, Bool.or_false, Bool.and_false]; rfl
    go_wp2_with fail
    refine (HX.out.2.1 _ _ _ (owns_rowS (l := x :: L) (by rw [← ex]; exact H3.out.2) (by rw [List.length_cons, HX.out.2.2.1]))).mono ?_
    rintro r w5 ⟨rfl, f5⟩
    have HF : Hid (Fr Nil w w5) := Lib.hid (HF1.out.comp (H3.out.1.comp f5))
    clear f5
    go_wp2
    go_ret
    exact ⟨rfl, HF.out⟩
end Go.Proofs.YtpjlibbdngnnnaaDoor

namespace Go.Proofs.YtpjlibbdngnnnaaDoor
set_option linter.unusedSimpArgs false
set_option linter.unusedVariables false
open Go.RowKit

set_option maxRecDepth 100000 in
set_option maxHeartbeats 4000000 in
theorem pop_any {w : World} {cs : List Value} {k : Nat} {ch : UInt8} {rest : List UInt8} {fl : Bool} {bi : Nat} {ps : List (List UInt8)} {ks : List TE} {bs : List TB} {al : List TA} (h : EAt (fun _ => False) w cs (.mk k (ch :: rest) fl bi ps ks bs al)) (hE : ∀ e ∈ ks, PsOk e) (hs : svK ks) (hz : zK ks ≤ 50000000) (hT : Tabs w) (hnl : (ch :: rest).length ≤ 50000000) (hop : lowF (ch :: rest) = true ∨ ks.length = 2) :
    Calls Tryd.prog 42 #[.agg cs.toArray] w fun r w' => r = .returned (.string ⟨(if lowF (ch :: rest) = true ∨ ks.length ≠ 2 then joinS ((ch :: rest) :: swK prF ks) else joinS [(swK prF ks).headD [], (ch :: rest), ((swK prF ks).drop 1).headD []]).toArray⟩) ∧ Fr Nil w w' := by
  have hA := fun w' (f : Fr Nil w w') => psatoms_any (h.frN f) hE hs hz (hT.fr f)
  have hcon := fun w' (f : Fr Nil w w') => pcon_any (h.frN f) hE hs hz (hT.fr f) hnl
  obtain ⟨a0, c0, a1, c1, a2, c2, a3, c3, kc, bc, ac, rfl, hp, hk, hk2, hb, hb2, ha, ha2⟩ := h.opened
  obtain ⟨nk, hnk⟩ : ∃ nk, ks.length = nk := ⟨_, rfl⟩
  obtain ⟨nb, hnb⟩ : ∃ nb, bs.length = nb := ⟨_, rfl⟩
  obtain ⟨na, hna⟩ : ∃ na, al.length = na := ⟨_, rfl⟩
  obtain ⟨np, hnp⟩ : ∃ np, ps.length = np := ⟨_, rfl⟩
  rw [hnk] at hk
  rw [hnb] at hb
  rw [hna] at ha
  have hp' : RowS (fun _ => False) w (.slice a0 np c0) ps := by rw [← hnp]; exact hp
  have hk9 := hk.lenX
  have hb9 := hb.lenX
  have ha9 := ha.lenX
  have hzl := swK_len prF prF_len ks
  obtain ⟨L, hL⟩ : ∃ L, swK prF ks = L := ⟨_, rfl⟩
  have hLn : L.length = nk := by rw [← hL, swK_length]; exact hnk
  simp only [hL, hnk, hnb, hna, hnp] at hA
  rw [hL] at hzl
  have hzL : lenS L ≤ 50000000 := by omega
  have hnk9 : nk ≤ 50000000 := by have := len_lenS L; omega
  rw [hL] at hcon ⊢
  simp only [hnk, hnb, hna, hnp] at hcon
  rw [hnk] at hop
  rw [hnk, hnb, hna, hnp]
  obtain ⟨r2, hr2⟩ : ∃ x, rest ++ [32] = x := ⟨_, rfl⟩
  have sa0 : ∀ w, (Op.stringOp .add ⟨(ch :: rest).toArray⟩ ⟨#[32]⟩).run Tryd.prog w = .ok (.string ⟨(ch :: r2).toArray⟩) w := fun w => by rw [← hr2]; exact sadd (ch :: rest) [32] (by simp at hnl ⊢; omega) w
  have hix : ∀ h, (⟨(ch :: r2).toArray⟩ : ByteArray)[0]'h = ch := fun _ => rfl
  have hcu := ch.toNat_lt
  obtain ⟨W1, hW1⟩ : ∃ W1, w.alloc (.cells #[.int .i64 (k : Int), .string ⟨(ch :: rest).toArray⟩, .bool fl, .int .u64 (bi : Int), .slice a0 np c0, .slice a1 nk c1, .slice a2 nb c2, .slice a3 na c3] 88) = W1 := ⟨_, rfl⟩
  obtain ⟨T, hTs⟩ : ∃ T, w.heap.size = T := ⟨_, rfl⟩
  have f1 : Fr Nil w W1 := by rw [← hW1]; (repeat (first | (with_reducible exact Fr.refl _ _) | (with_reducible assumption) | (with_reducible exact Fr.of_nil (by assumption)) | (with_reducible refine Fr.drew ?_) | (with_reducible refine Fr.drewN ?_ _) | (with_reducible refine Fr.alloc ?_ _) | (with_reducible refine Fr.set ?_ _ _ (by first | (intros; omega) | (simp; done) | (simp; omega))) | (with_reducible refine Fr.via ?_ (by assumption)) | (with_reducible refine Fr.comp ?_ (by assumption))))
  have b1 : Blk W1 T #[.int .i64 (k : Int), .string ⟨(ch :: rest).toArray⟩, .bool fl, .int .u64 (bi : Int), .slice a0 np c0, .slice a1 nk c1, .slice a2 nb c2, .slice a3 na c3] 88 := by rw [← hW1, ← hTs]; exact Blk.new _ _ _
  have hsz1 : T < W1.heap.size := b1.lt
  have HK2 : Hid (∀ w', Fr Nil W1 w' → w'.cell? ⟨T, 0, none⟩ = some (.int .i64 (k : Int)) ∧ w'.cell? ⟨T, 1, none⟩ = some (.string ⟨(ch :: rest).toArray⟩) ∧ w'.cell? ⟨T, 2, none⟩ = some (.bool fl) ∧ w'.cell? ⟨T, 3, none⟩ = some (.int .u64 (bi : Int)) ∧ w'.cell? ⟨T, 4, none⟩ = some (.slice a0 np c0) ∧ w'.cell? ⟨T, 5, none⟩ = some (.slice a1 nk c1) ∧ w'.cell? ⟨T, 6, none⟩ = some (.slice a2 nb c2) ∧ w'.cell? ⟨T, 7, none⟩ = some (.slice a3 na c3)) := Lib.hid (fun w' f => by
    have b := f.blk b1 (fun q => q)
    have z0 := b.cell 0
    have z1 := b.cell 1
    have z2 := b.cell 2
    have z3 := b.cell 3
    have z4 := b.cell 4
    have z5 := b.cell 5
    have z6 := b.cell 6
    have z7 := b.cell 7
    simp at z0 z1 z2 z3 z4 z5 z6 z7
    exact ⟨z0, z1, z2, z3, z4, z5, z6, z7⟩)
  obtain ⟨z0, z1, z2, z3, z4, z5, z6, z7⟩ := HK2.out W1 (Fr.refl _ _)
  have zl := b1.lt
  have HF1 := Lib.hid f1
  have HX := Lib.hid (And.intro (fun w' (f : Fr Nil W1 w') => hA w' (HF1.out.comp f)) (And.intro (fun w' (f : Fr Nil W1 w') => hcon w' (HF1.out.comp f)) hLn))
  clear hA hcon hLn hL hzl hr2 hcu
  clear h hp hp' hk hk2 hb hb2 ha ha2 hE hs hz hT hnk hnb hna hnp f1 b1
  by_cases hl : lowF (ch :: rest) = true
  · rw [if_pos (.inl hl)]
    have q2 : 97 ≤ ch.toNat ∧ ch.toNat ≤ 122 := by simpa [lowF] using hl
    have q0 : (97 : Int) ≤ (ch.toNat : Int) := by omega
    have q1 : (ch.toNat : Int) ≤ 122 := by omega
    clear hl q2 hop
    go_enter Tryd.func42, Tryd.ntmps42
    go_wp2_with fail
    try rw [hTs]
    try rw [hW1]
    refine (HX.out.2.1 _ (Fr.refl _ _)).mono ?_
    rintro r w2 ⟨rfl, f2⟩
    have HF : Hid (Fr Nil w w2) := Lib.hid (HF1.out.comp f2)
    clear f2
    go_wp2
    go_ret
    exact ⟨rfl, HF.out⟩
  · have hk2 := hop.resolve_left hl
    subst hk2
    rw [if_neg (fun z => z.elim hl (fun z => z rfl))]
    obtain ⟨x, y, hxy⟩ : ∃ x y, L = [x, y] := by
      have h1 := HX.out.2.2
      match L, h1 with
      | [x, y], _ => exact ⟨x, y, rfl⟩
    subst hxy
    have hxl : x.length ≤ 50000000 := by rw [lenS_cons] at hzL; omega
    have hyl : y.length ≤ 50000000 := by rw [lenS_cons, lenS_cons] at hzL; omega
    have hq : ¬ (97 : Int) ≤ (ch.toNat : Int) ∨ ((97 : Int) ≤ (ch.toNat : Int) ∧ ¬ (ch.toNat : Int) ≤ 122) := by
      have h2 : ¬ (97 ≤ ch.toNat ∧ ch.toNat ≤ 122) := fun z => hl (by simp [lowF, z.1, z.2])
      omega
    have hjn : ∀ (w' : World), RowS (fun _ => False) w' (.slice (some ⟨w'.heap.size, 0, none⟩) 3 3) [x, ch :: rest, y] → True := fun _ _ => trivial
    clear hjn
    show Calls _ _ _ _ fun r w' => r = .returned (.string ⟨(joinS [x, ch :: rest, y]).toArray⟩) ∧ Fr Nil w w'
    have hjn : ∀ (w' : World) (b : Nat), Blk w' b #[.string ⟨x.toArray⟩, .string ⟨(ch :: rest).toArray⟩, .string ⟨y.toArray⟩] 9 → Calls Tryd.prog 77 #[.slice (some ⟨b, 0, none⟩) 3 3] w' fun r w2 => r = .returned (.string ⟨(joinS [x, ch :: rest, y]).toArray⟩) ∧ Fr Nil w' w2 := fun w' b hb =>
      pjoin_any (RowS.of_blk (l := [x, ch :: rest, y]) hb (by show (3 : Nat) ≤ maxLen; decide) id) rfl (by rw [lenS_cons, lenS_cons, lenS_cons, lenS_nil]; omega)
    have HJ := Lib.hid hjn
    clear hjn hl hop hzL hxl hyl
    rcases hq with q1 | ⟨q0, q1⟩
    · go_enter Tryd.func42, Tryd.ntmps42
      go_wp2_with fail
      try rw [hTs]
      try rw [hW1]
      clear hW1 hTs
      refine (HX.out.1 _ (Fr.refl _ _)).mono ?_
      rintro r w2 ⟨v2, rfl, ho2, f2⟩
      obtain ⟨g, cap, rfl⟩ := Joins.ownsRow_form ho2 (by omega)
      obtain ⟨cur, hg2⟩ := owns_blk ho2 (by omega)
      have HK3 : Hid (∀ w', Fr Nil w2 w' → (w'.cell? ⟨T, 0, none⟩ = some (.int .i64 (k : Int)) ∧ w'.cell? ⟨T, 1, none⟩ = some (.string ⟨(ch :: rest).toArray⟩) ∧ w'.cell? ⟨T, 2, none⟩ = some (.bool fl) ∧ w'.cell? ⟨T, 3, none⟩ = some (.int .u64 (bi : Int)) ∧ w'.cell? ⟨T, 4, none⟩ = some (.slice a0 np c0) ∧ w'.cell? ⟨T, 5, none⟩ = some (.slice a1 2 c1) ∧ w'.cell? ⟨T, 6, none⟩ = some (.slice a2 nb c2) ∧ w'.cell? ⟨T, 7, none⟩ = some (.slice a3 na c3)) ∧ w'.cell? ⟨g, 0, none⟩ = some (.string ⟨x.toArray⟩) ∧ w'.cell? ⟨g, 1, none⟩ = some (.string ⟨y.toArray⟩)) := Lib.hid (fun w' f => by
        have ho := owns_fr ho2 f
        have g0 := ho.cellAt 0 (by omega)
        have g1 := ho.cellAt 1 (by omega)
        exact ⟨HK2.out w' (f2.comp f), g0, g1⟩)
      have H2 := Lib.hid f2
      have hS0 := HK3.out w2 (Fr.refl _ _)
      have zg := hg2.lt
      have s2 := f2.size
      clear z0 z1 z2 z3 z4 z5 z6 z7 zl f2 ho2 hg2
      go_upto_region 5 with fail
      go_region_held3 (fun w' => (w'.cell? ⟨T, 0, none⟩ = some (.int .i64 (k : Int)) ∧ w'.cell? ⟨T, 1, none⟩ = some (.string ⟨(ch :: rest).toArray⟩) ∧ w'.cell? ⟨T, 2, none⟩ = some (.bool fl) ∧ w'.cell? ⟨T, 3, none⟩ = some (.int .u64 (bi : Int)) ∧ w'.cell? ⟨T, 4, none⟩ = some (.slice a0 np c0) ∧ w'.cell? ⟨T, 5, none⟩ = some (.slice a1 2 c1) ∧ w'.cell? ⟨T, 6, none⟩ = some (.slice a2 nb c2) ∧ w'.cell? ⟨T, 7, none⟩ = some (.slice a3 na c3)) ∧ w'.cell? ⟨g, 0, none⟩ = some (.string ⟨x.toArray⟩) ∧ w'.cell? ⟨g, 1, none⟩ = some (.string ⟨y.toArray⟩)) (with_reducible refine HK3.out _ ?_; (first | assumption | (repeat (first | (with_reducible exact Fr.refl _ _) | (with_reducible assumption) | (with_reducible exact Fr.of_nil (by assumption)) | (with_reducible refine Fr.drew ?_) | (with_reducible refine Fr.drewN ?_ _) | (with_reducible refine Fr.alloc ?_ _) | (with_reducible refine Fr.set ?_ _ _ (by first | (intros; omega) | (simp; done) | (simp; omega))) | (with_reducible refine Fr.via ?_ (by assumption)) | (with_reducible refine Fr.comp ?_ (by assumption)))))) (first
        | (go_at_call 77; refine (HJ.out _ _ (by (unfold Blk; simp (disch := first | omega | (simp; done) | (simp; omega)) only [hp_drew, hp_drewN, hp_alloc, hp_other, hp_same, hp_new, upd_cells, Option.map_some]))).mono ?_; rintro r w7 ⟨rfl, f7⟩; have g7 : Fr Nil w2 w7 := Fr.comp (S := Nil) (by (repeat (first | (with_reducible exact Fr.refl _ _) | (with_reducible assumption) | (with_reducible exact Fr.of_nil (by assumption)) | (with_reducible refine Fr.drew ?_) | (with_reducible refine Fr.drewN ?_ _) | (with_reducible refine Fr.alloc ?_ _) | (with_reducible refine Fr.set ?_ _ _ (by first | (intros; omega) | (simp; done) | (simp; omega))) | (with_reducible refine Fr.via ?_ (by assumption)) | (with_reducible refine Fr.comp ?_ (by assumption))))) f7; clear f7))
      all_goals
        go_wp2
        go_ret
        exact ⟨rfl, HF1.out.comp (H2.out.comp (by first | assumption | (repeat (first | (with_reducible exact Fr.refl _ _) | (with_reducible assumption) | (with_reducible exact Fr.of_nil (by assumption)) | (with_reducible refine Fr.drew ?_) | (with_reducible refine Fr.drewN ?_ _) | (with_reducible refine Fr.alloc ?_ _) | (with_reducible refine Fr.set ?_ _ _ (by first | (intros; omega) | (simp; done) | (simp; omega))) | (with_reducible refine Fr.via ?_ (by assumption)) | (with_reducible refine Fr.comp ?_ (by assumption))))))⟩
    · go_enter Tryd.func42, Tryd.ntmps42
      go_wp2_with fail
      try rw [hTs]
      try rw [hW1]
      clear hW1 hTs
      refine (HX.out.1 _ (Fr.refl _ _)).mono ?_
      rintro r w2 ⟨v2, rfl, ho2, f2⟩
      obtain ⟨g, cap, rfl⟩ := Joins.ownsRow_form ho2 (by omega)
      obtain ⟨cur, hg2⟩ := owns_blk ho2 (by omega)
      have HK3 : Hid (∀ w', Fr Nil w2 w' → (w'.cell? ⟨T, 0, none⟩ = some (.int .i64 (k : Int)) ∧ w'.cell? ⟨T, 1, none⟩ = some (.string ⟨(ch :: rest).toArray⟩) ∧ w'.cell? ⟨T, 2, none⟩ = some (.bool fl) ∧ w'.cell? ⟨T, 3, none⟩ = some (.int .u64 (bi : Int)) ∧ w'.cell? ⟨T, 4, none⟩ = some (.slice a0 np c0) ∧ w'.cell? ⟨T, 5, none⟩ = some (.slice a1 2 c1) ∧ w'.cell? ⟨T, 6, none⟩ = some (.slice a2 nb c2) ∧ w'.cell? ⟨T, 7, none⟩ = some (.slice a3 na c3)) ∧ w'.cell? ⟨g, 0, none⟩ = some (.string ⟨x.toArray⟩) ∧ w'.cell? ⟨g, 1, none⟩ = some (.string ⟨y.toArray⟩)) := Lib.hid (fun w' f => by
        have ho := owns_fr ho2 f
        have g0 := ho.cellAt 0 (by omega)
        have g1 := ho.cellAt 1 (by omega)
        exact ⟨HK2.out w' (f2.comp f), g0, g1⟩)
      have H2 := Lib.hid f2
      have hS0 := HK3.out w2 (Fr.refl _ _)
      have zg := hg2.lt
      have s2 := f2.size
      clear z0 z1 z2 z3 z4 z5 z6 z7 zl f2 ho2 hg2
      go_upto_region 5 with fail
      go_region_held3 (fun w' => (w'.cell? ⟨T, 0, none⟩ = some (.int .i64 (k : Int)) ∧ w'.cell? ⟨T, 1, none⟩ = some (.string ⟨(ch :: rest).toArray⟩) ∧ w'.cell? ⟨T, 2, none⟩ = some (.bool fl) ∧ w'.cell? ⟨T, 3, none⟩ = some (.int .u64 (bi : Int)) ∧ w'.cell? ⟨T, 4, none⟩ = some (.slice a0 np c0) ∧ w'.cell? ⟨T, 5, none⟩ = some (.slice a1 2 c1) ∧ w'.cell? ⟨T, 6, none⟩ = some (.slice a2 nb c2) ∧ w'.cell? ⟨T, 7, none⟩ = some (.slice a3 na c3)) ∧ w'.cell? ⟨g, 0, none⟩ = some (.string ⟨x.toArray⟩) ∧ w'.cell? ⟨g, 1, none⟩ = some (.string ⟨y.toArray⟩)) (with_reducible refine HK3.out _ ?_; (first | assumption | (repeat (first | (with_reducible exact Fr.refl _ _) | (with_reducible assumption) | (with_reducible exact Fr.of_nil (by assumption)) | (with_reducible refine Fr.drew ?_) | (with_reducible refine Fr.drewN ?_ _) | (with_reducible refine Fr.alloc ?_ _) | (with_reducible refine Fr.set ?_ _ _ (by first | (intros; omega) | (simp; done) | (simp; omega))) | (with_reducible refine Fr.via ?_ (by assumption)) | (with_reducible refine Fr.comp ?_ (by assumption)))))) (first
        | (go_at_call 77; refine (HJ.out _ _ (by (unfold Blk; simp (disch := first | omega | (simp; done) | (simp; omega)) only [hp_drew, hp_drewN, hp_alloc, hp_other, hp_same, hp_new, upd_cells, Option.map_some]))).mono ?_; rintro r w7 ⟨rfl, f7⟩; have g7 : Fr Nil w2 w7 := Fr.comp (S := Nil) (by (repeat (first | (with_reducible exact Fr.refl _ _) | (with_reducible assumption) | (with_reducible exact Fr.of_nil (by assumption)) | (with_reducible refine Fr.drew ?_) | (with_reducible refine Fr.drewN ?_ _) | (with_reducible refine Fr.alloc ?_ _) | (with_reducible refine Fr.set ?_ _ _ (by first | (intros; omega) | (simp; done) | (simp; omega))) | (with_reducible refine Fr.via ?_ (by assumption)) | (with_reducible refine Fr.comp ?_ (by assumption))))) f7; clear f7))
      all_goals
        go_wp2
        go_ret
        exact ⟨rfl, HF1.out.comp (H2.out.comp (by first | assumption | (repeat (first | (with_reducible exact Fr.refl _ _) | (with_reducible assumption) | (with_reducible exact Fr.of_nil (by assumption)) | (with_reducible refine Fr.drew ?_) | (with_reducible refine Fr.drewN ?_ _) | (with_reducible refine Fr.alloc ?_ _) | (with_reducible refine Fr.set ?_ _ _ (by first | (intros; omega) | (simp; done) | (simp; omega))) | (with_reducible refine Fr.via ?_ (by assumption)) | (with_reducible refine Fr.comp ?_ (by assumption))))))⟩
end Go.Proofs.YtpjlibbdngnnnaaDoor
