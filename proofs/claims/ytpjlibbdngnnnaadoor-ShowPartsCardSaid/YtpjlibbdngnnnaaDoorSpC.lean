/-
  The program's scope (layer 10): the checker's questions, given what it answers of each expression within. No conditions.
-/
import Derived.Test.YtpjlibbdngnnnaaDoorSpA
import Derived.Deep.RegionHeld3
namespace Go.Proofs.YtpjlibbdngnnnaaDoor
set_option linter.unusedSimpArgs false
set_option linter.unusedVariables false
open Go.RowKit

/-- A checker: its constructors' names. -/
def ChkAt (w : World) (cb : Nat) (cons : List (List UInt8)) : Prop := ∃ mc, Blk w cb #[.map (some mc)] 64 ∧ SMap w mc cons.length (cnt cons)
theorem ChkAt.fr {w w' : World} {cb : Nat} {cons : List (List UInt8)} (h : ChkAt w cb cons) (f : Fr Nil w w') : ChkAt w' cb cons := by
  obtain ⟨mc, h1, h2⟩ := h
  exact ⟨mc, f.blk h1 (fun q => q), h2.fr f (fun q => q)⟩
theorem SMap.frN {w w' : World} {b n : Nat} {f : List UInt8 → Int} (h : SMap w b n f) (g : Fr Nil w w') : SMap w' b n f := h.fr g (fun q => q)
theorem EAt.frN {w w' : World} {cs : List Value} {t : TE} (h : EAt (fun _ => False) w cs t) (f : Fr Nil w w') : EAt (fun _ => False) w' cs t := h.fr f (fun _ q => q.elim)
theorem BAt.frN {w w' : World} {cs : List Value} {t : TB} (h : BAt (fun _ => False) w cs t) (f : Fr Nil w w') : BAt (fun _ => False) w' cs t := lawB.fr h f (fun _ q => q.elim)
theorem AAt.frN {w w' : World} {cs : List Value} {t : TA} (h : AAt (fun _ => False) w cs t) (f : Fr Nil w w') : AAt (fun _ => False) w' cs t := lawA.fr h f (fun _ q => q.elim)
theorem RowC.frN {w w' : World} {v : Value} {n size : Nat} {cs : Nat → List Value} (h : RowC (fun _ => False) w v n size cs) (f : Fr Nil w w') : RowC (fun _ => False) w' v n size cs := h.fr f (fun _ q => q.elim)
theorem RowS.frN {w w' : World} {v : Value} {l : List (List UInt8)} (h : RowS (fun _ => False) w v l) (f : Fr Nil w w') : RowS (fun _ => False) w' v l := RowS.fr h f (fun _ q => q.elim)
theorem RowC.lenX {X : Nat → Prop} {w : World} {v : Value} {n size : Nat} {cs : Nat → List Value} (h : RowC X w v n size cs) : n ≤ 9223372036854775807 := by
  obtain ⟨_, _, _, q1, q2, _⟩ := h
  unfold maxLen at q2
  omega
theorem wtK_mem : ∀ {ks : List TE} {e : TE}, e ∈ ks → wtE e ≤ wtK ks
  | [], _, h => by simp at h
  | x :: l, e, h => by
    unfold wtK
    rcases List.mem_cons.1 h with q | q
    · subst q; omega
    · have := wtK_mem q
      omega
theorem wtA_mem : ∀ {al : List TA} {a : TA}, a ∈ al → 1 + a.names.length + wtE a.body ≤ wtA al
  | [], _, h => by simp at h
  | .mk k n f b p e :: l, a, h => by
    unfold wtA
    rcases List.mem_cons.1 h with q | q
    · subst q
      show 1 + p.length + wtE e ≤ _
      omega
    · have := wtA_mem q
      omega
/-- An expression's cells, and what lies behind them. -/
theorem EAt.opened {w : World} {cs : List Value} {k : Nat} {nm : List UInt8} {fl : Bool} {bi : Nat} {ps : List (List UInt8)} {ks : List TE} {bs : List TB} {al : List TA} (h : EAt (fun _ => False) w cs (.mk k nm fl bi ps ks bs al)) :
    ∃ (a0 : Option Addr) (c0 : Nat) (a1 : Option Addr) (c1 : Nat) (a2 : Option Addr) (c2 : Nat) (a3 : Option Addr) (c3 : Nat) (kc bc ac : Nat → List Value), cs = [.int .i64 (k : Int), .string ⟨nm.toArray⟩, .bool fl, .int .u64 (bi : Int), .slice a0 ps.length c0, .slice a1 ks.length c1, .slice a2 bs.length c2, .slice a3 al.length c3] ∧
      RowS (fun _ => False) w (.slice a0 ps.length c0) ps ∧ RowC (fun _ => False) w (.slice a1 ks.length c1) ks.length 8 kc ∧ (∀ i (h : i < ks.length), EAt (fun _ => False) w (kc i) ks[i]) ∧
      RowC (fun _ => False) w (.slice a2 bs.length c2) bs.length 10 bc ∧ (∀ i (h : i < bs.length), BAt (fun _ => False) w (bc i) bs[i]) ∧ RowC (fun _ => False) w (.slice a3 al.length c3) al.length 13 ac ∧ (∀ i (h : i < al.length), AAt (fun _ => False) w (ac i) al[i]) := by
  cases h with
  | mk kc bc ac be ae bp an hp hk hk2 hb hb1 hb2 hb3 ha ha1 ha2 ha3 =>
    obtain ⟨a0, c0, rfl⟩ := RowC.shape hp
    obtain ⟨a1, c1, rfl⟩ := hk.shape
    obtain ⟨a2, c2, rfl⟩ := hb.shape
    obtain ⟨a3, c3, rfl⟩ := ha.shape
    exact ⟨a0, c0, a1, c1, a2, c2, a3, c3, kc, bc, ac, rfl, hp, hk, hk2, hb, fun i hi => ⟨bp i, be i, hb1 i hi, hb2 i hi, hb3 i hi⟩, ha, fun i hi => ⟨an i, ae i, ha1 i hi, ha2 i hi, ha3 i hi⟩⟩
section
variable {cons : List (List UInt8)}
set_option maxRecDepth 100000 in
theorem scon_any {w : World} {cb : Nat} (hc : ChkAt w cb cons) {n : List UInt8} (hn : n.length ≤ maxLen) :
    Calls Tryd.prog 102 #[.pointer (some ⟨cb, 0, none⟩), .string ⟨n.toArray⟩] w (Told (conS cons n noF) w) := by
  obtain ⟨mc, hb, hm⟩ := hc
  have t0 := hb.cell 0
  simp at t0
  have tl := hb.lt
  obtain ⟨F, hF⟩ : ∃ F, cnt cons = F := ⟨_, rfl⟩
  obtain ⟨d, hd⟩ : ∃ d, F n = d := ⟨_, rfl⟩
  have hmem : d = 0 ↔ n ∉ cons := by rw [← hd, ← hF]; exact cnt_zero
  have hL := (hF ▸ hm).run Tryd.underlying62 hn
  rw [hd] at hL
  have HS : Hid (conS cons n noF = if d = 0 then (4, n) else noF) := Lib.hid (by
    unfold conS
    by_cases q : d = 0
    · rw [if_pos q, if_neg (hmem.1 q), flt_no]
    · rw [if_neg q, if_pos (Classical.not_not.1 (fun z => q (hmem.2 z)))])
  have HL := Lib.hid (And.intro hL (hF ▸ hm))
  clear hb hm hF hmem
  by_cases hz : d = 0
  · subst hz
    go_enter Tryd.func102, Tryd.ntmps102
    go_wp2_with (first
      | (at_lookup; refine wp_lookS _ Tryd.underlying62 rfl _ _ rfl mc cons.length F rfl HL.out.2 n rfl hn ?_; rw [hd])
      | fail)
    refine (bad_any (e := 4) (by decide) n).mono ?_
    rintro e w2 ⟨v, rfl, he, f2⟩
    have HG := Lib.hid (And.intro he f2)
    clear he f2
    go_wp2
    go_ret
    exact ⟨v, rfl, by rw [HS.out]; exact HG.out.1, HG.out.2⟩
  · have d1 : (d == 0) = false := by simpa using hz
    have HZ := Lib.hid hz
    go_enter Tryd.func102, Tryd.ntmps102
    go_wp2_with (first
      | (at_lookup; refine wp_lookS _ Tryd.underlying62 rfl _ _ rfl mc cons.length F rfl HL.out.2 n rfl hn ?_; rw [hd])
      | fail)
    go_ret
    exact ⟨_, rfl, by rw [HS.out, if_neg HZ.out]; exact ErrAt.none, by (repeat (first | (with_reducible exact Fr.refl _ _) | (with_reducible assumption) | (with_reducible exact Fr.of_nil (by assumption)) | (with_reducible refine Fr.drew ?_) | (with_reducible refine Fr.drewN ?_ _) | (with_reducible refine Fr.alloc ?_ _) | (with_reducible refine Fr.set ?_ _ _ (by first | (intros; omega) | (simp; done) | (simp; omega))) | (with_reducible refine Fr.via ?_ (by assumption)) | (with_reducible refine Fr.comp ?_ (by assumption))))⟩

set_option maxRecDepth 100000 in
theorem c_body1_any {w : World} {q1 : Nat} {l : List (List UInt8)} {lv : Value} {t : TypeId} (hb : Blk w q1 #[lv] t) (hr : RowS (fun _ => False) w lv l) (hl : ∀ x ∈ l, x.length ≤ maxLen) (hn : l.length ≤ 900000) :
    Calls Tryd.prog 65 #[.pointer (some ⟨q1, 0, none⟩)] w (Told (twF l noF) w) := by
  have t0 := hb.cell 0
  simp at t0
  have tl := hb.lt
  obtain ⟨a, cap, rfl⟩ := RowC.shape hr
  obtain ⟨m, hm⟩ : ∃ m, l.length = m := ⟨_, rfl⟩
  have HA := Lib.hid (twice_any hr hl hn)
  rw [hm] at HA t0
  clear hb hr hl hn hm
  go_enter Tryd.func65, Tryd.ntmps65
  go_wp2_with fail
  refine HA.out.mono ?_
  rintro e w2 ⟨v, rfl, he, f2⟩
  have g2 : Fr Nil w w2 := Fr.comp (S := Nil) (by (repeat (first | (with_reducible exact Fr.refl _ _) | (with_reducible assumption) | (with_reducible exact Fr.of_nil (by assumption)) | (with_reducible refine Fr.drew ?_) | (with_reducible refine Fr.drewN ?_ _) | (with_reducible refine Fr.alloc ?_ _) | (with_reducible refine Fr.set ?_ _ _ (by first | (intros; omega) | (simp; done) | (simp; omega))) | (with_reducible refine Fr.via ?_ (by assumption)) | (with_reducible refine Fr.comp ?_ (by assumption))))) f2
  have HG := Lib.hid (And.intro he g2)
  clear he f2 g2
  go_wp2
  go_ret
  exact ⟨v, rfl, HG.out.1, HG.out.2⟩

set_option maxRecDepth 100000 in
theorem c_let1_any {w : World} {q1 : Nat} {l : List (List UInt8)} {lv : Value} {t : TypeId} (hb : Blk w q1 #[lv] t) (hr : RowS (fun _ => False) w lv l) (hl : ∀ x ∈ l, x.length ≤ maxLen) (hn : l.length ≤ 900000) :
    Calls Tryd.prog 124 #[.pointer (some ⟨q1, 0, none⟩)] w (Told (twF l noF) w) := by
  have t0 := hb.cell 0
  simp at t0
  have tl := hb.lt
  obtain ⟨a, cap, rfl⟩ := RowC.shape hr
  obtain ⟨m, hm⟩ : ∃ m, l.length = m := ⟨_, rfl⟩
  have HA := Lib.hid (twice_any hr hl hn)
  rw [hm] at HA t0
  clear hb hr hl hn hm
  go_enter Tryd.func124, Tryd.ntmps124
  go_wp2_with fail
  refine HA.out.mono ?_
  rintro e w2 ⟨v, rfl, he, f2⟩
  have g2 : Fr Nil w w2 := Fr.comp (S := Nil) (by (repeat (first | (with_reducible exact Fr.refl _ _) | (with_reducible assumption) | (with_reducible exact Fr.of_nil (by assumption)) | (with_reducible refine Fr.drew ?_) | (with_reducible refine Fr.drewN ?_ _) | (with_reducible refine Fr.alloc ?_ _) | (with_reducible refine Fr.set ?_ _ _ (by first | (intros; omega) | (simp; done) | (simp; omega))) | (with_reducible refine Fr.via ?_ (by assumption)) | (with_reducible refine Fr.comp ?_ (by assumption))))) f2
  have HG := Lib.hid (And.intro he g2)
  clear he f2 g2
  go_wp2
  go_ret
  exact ⟨v, rfl, HG.out.1, HG.out.2⟩

set_option maxRecDepth 100000 in
theorem c_Check1_any {w : World} {q1 : Nat} {l : List (List UInt8)} {lv : Value} {t : TypeId} (hb : Blk w q1 #[lv] t) (hr : RowS (fun _ => False) w lv l) (hl : ∀ x ∈ l, x.length ≤ maxLen) (hn : l.length ≤ 900000) :
    Calls Tryd.prog 26 #[.pointer (some ⟨q1, 0, none⟩)] w (Told (twF l noF) w) := by
  have t0 := hb.cell 0
  simp at t0
  have tl := hb.lt
  obtain ⟨a, cap, rfl⟩ := RowC.shape hr
  obtain ⟨m, hm⟩ : ∃ m, l.length = m := ⟨_, rfl⟩
  have HA := Lib.hid (twice_any hr hl hn)
  rw [hm] at HA t0
  clear hb hr hl hn hm
  go_enter Tryd.func26, Tryd.ntmps26
  go_wp2_with fail
  refine HA.out.mono ?_
  rintro e w2 ⟨v, rfl, he, f2⟩
  have g2 : Fr Nil w w2 := Fr.comp (S := Nil) (by (repeat (first | (with_reducible exact Fr.refl _ _) | (with_reducible assumption) | (with_reducible exact Fr.of_nil (by assumption)) | (with_reducible refine Fr.drew ?_) | (with_reducible refine Fr.drewN ?_ _) | (with_reducible refine Fr.alloc ?_ _) | (with_reducible refine Fr.set ?_ _ _ (by first | (intros; omega) | (simp; done) | (simp; omega))) | (with_reducible refine Fr.via ?_ (by assumption)) | (with_reducible refine Fr.comp ?_ (by assumption))))) f2
  have HG := Lib.hid (And.intro he g2)
  clear he f2 g2
  go_wp2
  go_ret
  exact ⟨v, rfl, HG.out.1, HG.out.2⟩

set_option maxRecDepth 100000 in
theorem c_Check2_any {w : World} {q1 : Nat} {l : List (List UInt8)} {lv : Value} {t : TypeId} (hb : Blk w q1 #[lv] t) (hr : RowS (fun _ => False) w lv l) (hl : ∀ x ∈ l, x.length ≤ maxLen) (hn : l.length ≤ 900000) :
    Calls Tryd.prog 28 #[.pointer (some ⟨q1, 0, none⟩)] w (Told (twF l noF) w) := by
  have t0 := hb.cell 0
  simp at t0
  have tl := hb.lt
  obtain ⟨a, cap, rfl⟩ := RowC.shape hr
  obtain ⟨m, hm⟩ : ∃ m, l.length = m := ⟨_, rfl⟩
  have HA := Lib.hid (twice_any hr hl hn)
  rw [hm] at HA t0
  clear hb hr hl hn hm
  go_enter Tryd.func28, Tryd.ntmps28
  go_wp2_with fail
  refine HA.out.mono ?_
  rintro e w2 ⟨v, rfl, he, f2⟩
  have g2 : Fr Nil w w2 := Fr.comp (S := Nil) (by (repeat (first | (with_reducible exact Fr.refl _ _) | (with_reducible assumption) | (with_reducible exact Fr.of_nil (by assumption)) | (with_reducible refine Fr.drew ?_) | (with_reducible refine Fr.drewN ?_ _) | (with_reducible refine Fr.alloc ?_ _) | (with_reducible refine Fr.set ?_ _ _ (by first | (intros; omega) | (simp; done) | (simp; omega))) | (with_reducible refine Fr.via ?_ (by assumption)) | (with_reducible refine Fr.comp ?_ (by assumption))))) f2
  have HG := Lib.hid (And.intro he g2)
  clear he f2 g2
  go_wp2
  go_ret
  exact ⟨v, rfl, HG.out.1, HG.out.2⟩

/-- What the checker answers of an expression. -/
def ExprOk (cons : List (List UInt8)) (e : TE) : Prop := ∀ (w : World) (cb mi : Nat) (i : List (List UInt8)) (cs : List Value), ChkAt w cb cons → SMap w mi i.length (cnt i) → EAt (fun _ => False) w cs e → i.length + wtE e ≤ 900000 →
  Calls Tryd.prog 67 #[.pointer (some ⟨cb, 0, none⟩), .agg cs.toArray, .map (some mi)] w (Told (scE cons e i noF) w)
variable {w : World} {cb mi q1 q2 q3 q4 : Nat} {i : List (List UInt8)}

set_option maxRecDepth 100000 in
theorem skids1_any {e : TE} {cs : List Value} (hOk : ExprOk cons e) (hc : ChkAt w cb cons) (hm : SMap w mi i.length (cnt i)) (hb1 : Blk w q1 #[.pointer (some ⟨cb, 0, none⟩)] 60) (hb2 : Blk w q2 #[.map (some mi)] 62) (hE : EAt (fun _ => False) w cs e) (hw : i.length + wtE e ≤ 900000) :
    Calls Tryd.prog 123 #[.agg cs.toArray, .pointer (some ⟨q1, 0, none⟩), .pointer (some ⟨q2, 0, none⟩)] w (Told (scE cons e i noF) w) := by
  have HA := Lib.hid (fun w' (f : Fr Nil w w') => hOk w' cb mi i cs (hc.fr f) (hm.frN f) (hE.frN f) hw)
  obtain ⟨k, nm, fl, bi, a0, n0, c0, a1, n1, c1, a2, n2, c2, a3, n3, c3, rfl⟩ := hE.formE
  have t1 := hb1.cell 0
  have t2 := hb2.cell 0
  simp at t1 t2
  have l1 := hb1.lt
  have l2 := hb2.lt
  clear hOk hc hm hb1 hb2 hE hw
  go_enter Tryd.func123, Tryd.ntmps123
  go_wp2_with fail
  refine (HA.out _ (by (repeat (first | (with_reducible exact Fr.refl _ _) | (with_reducible assumption) | (with_reducible exact Fr.of_nil (by assumption)) | (with_reducible refine Fr.drew ?_) | (with_reducible refine Fr.drewN ?_ _) | (with_reducible refine Fr.alloc ?_ _) | (with_reducible refine Fr.set ?_ _ _ (by first | (intros; omega) | (simp; done) | (simp; omega))) | (with_reducible refine Fr.via ?_ (by assumption)) | (with_reducible refine Fr.comp ?_ (by assumption)))))).mono ?_
  rintro e w2 ⟨v, rfl, he, f2⟩
  have g2 : Fr Nil w w2 := Fr.comp (S := Nil) (by (repeat (first | (with_reducible exact Fr.refl _ _) | (with_reducible assumption) | (with_reducible exact Fr.of_nil (by assumption)) | (with_reducible refine Fr.drew ?_) | (with_reducible refine Fr.drewN ?_ _) | (with_reducible refine Fr.alloc ?_ _) | (with_reducible refine Fr.set ?_ _ _ (by first | (intros; omega) | (simp; done) | (simp; omega))) | (with_reducible refine Fr.via ?_ (by assumption)) | (with_reducible refine Fr.comp ?_ (by assumption))))) f2
  have HG := Lib.hid (And.intro he g2)
  clear he f2 g2
  go_wp2
  go_ret
  exact ⟨v, rfl, HG.out.1, HG.out.2⟩

set_option maxRecDepth 100000 in
theorem skids_any {k : Nat} {nm : List UInt8} {fl : Bool} {bi : Nat} {ps : List (List UInt8)} {ks : List TE} {bs : List TB} {al : List TA} {cs : List Value} (hOk : ∀ e ∈ ks, ExprOk cons e) (hc : ChkAt w cb cons) (hm : SMap w mi i.length (cnt i)) (hE : EAt (fun _ => False) w cs (.mk k nm fl bi ps ks bs al)) (hw : i.length + wtK ks ≤ 900000) :
    Calls Tryd.prog 103 #[.pointer (some ⟨cb, 0, none⟩), .agg cs.toArray, .map (some mi)] w fun r w' => ∃ v, r = .returned v ∧ FnAt w' v (scK cons ks i noF) ∧ Fr Nil w w' := by
  obtain ⟨a0, c0, a1, c1, a2, c2, a3, c3, kc, bc, ac, rfl, hp, hk, hk2, hb, hb2', ha, ha2⟩ := hE.opened
  obtain ⟨nk, hnk⟩ : ∃ nk, ks.length = nk := ⟨_, rfl⟩
  obtain ⟨nb, hnb⟩ : ∃ nb, bs.length = nb := ⟨_, rfl⟩
  obtain ⟨na, hna⟩ : ∃ na, al.length = na := ⟨_, rfl⟩
  obtain ⟨np, hnp⟩ : ∃ np, ps.length = np := ⟨_, rfl⟩
  rw [hnk] at hk
  rw [hnb] at hb
  rw [hna] at ha
  rw [hnp] at hp
  rw [hnk, hnb, hna, hnp]
  have H0 := Lib.hid (And.intro hOk (And.intro hc (And.intro hm (And.intro hk (And.intro hk2 (And.intro hw hnk))))))
  clear hOk hc hm hE hw hp hk hk2 hb hb2' ha ha2 hnk hnb hna hnp
  go_enter Tryd.func103, Tryd.ntmps103
  go_wp2_with fail
  obtain ⟨W1, hW1⟩ : ∃ W1, ((w.alloc (.cells #[.pointer (some ⟨cb, 0, none⟩)] 60)).alloc (.cells #[.int .i64 (k : Int), .string ⟨nm.toArray⟩, .bool fl, .int .u64 (bi : Int), .slice a0 np c0, .slice a1 nk c1, .slice a2 nb c2, .slice a3 na c3] 40)).alloc (.cells #[.map (some mi)] 62) = W1 := ⟨_, rfl⟩
  rw [hW1]
  have f1 : Fr Nil w W1 := by rw [← hW1]; (repeat (first | (with_reducible exact Fr.refl _ _) | (with_reducible assumption) | (with_reducible exact Fr.of_nil (by assumption)) | (with_reducible refine Fr.drew ?_) | (with_reducible refine Fr.drewN ?_ _) | (with_reducible refine Fr.alloc ?_ _) | (with_reducible refine Fr.set ?_ _ _ (by first | (intros; omega) | (simp; done) | (simp; omega))) | (with_reducible refine Fr.via ?_ (by assumption)) | (with_reducible refine Fr.comp ?_ (by assumption))))
  have b3 : Blk W1 w.heap.size #[.pointer (some ⟨cb, 0, none⟩)] 60 := by rw [← hW1]; (unfold Blk; simp (disch := first | omega | (simp; done) | (simp; omega)) only [hp_drew, hp_drewN, hp_alloc, hp_other, hp_same, hp_new, upd_cells, Option.map_some])
  have b4 : Blk W1 (w.heap.size + 1) #[.int .i64 (k : Int), .string ⟨nm.toArray⟩, .bool fl, .int .u64 (bi : Int), .slice a0 np c0, .slice a1 nk c1, .slice a2 nb c2, .slice a3 na c3] 40 := by rw [← hW1]; (unfold Blk; simp (disch := first | omega | (simp; done) | (simp; omega)) only [hp_drew, hp_drewN, hp_alloc, hp_other, hp_same, hp_new, upd_cells, Option.map_some])
  have b5 : Blk W1 (w.heap.size + 2) #[.map (some mi)] 62 := by rw [← hW1]; (unfold Blk; simp (disch := first | omega | (simp; done) | (simp; omega)) only [hp_drew, hp_drewN, hp_alloc, hp_other, hp_same, hp_new, upd_cells, Option.map_some])
  have H1 := Lib.hid (And.intro f1 (And.intro b3 b5))
  clear hW1 f1 b3 b4 b5
  refine (allE_any (w := W1) (cs := kc) (ss := ks.map (fun e => scE cons e i noF)) (enters_of Tryd.func123 (by kernel_rfl) rfl) H0.out.2.2.2.1.lenX (fun j hj => (H0.out.2.2.2.2.1 j (by rw [H0.out.2.2.2.2.2.2]; exact hj)).formE) (H0.out.2.2.2.1.frN H1.out.1) (by rw [List.length_map, H0.out.2.2.2.2.2.2]) (fun j hj w' f => ?_)).mono ?_
  · have hj' : j < ks.length := by simpa using hj
    rw [List.getElem_map]
    have hm := List.getElem_mem hj'
    exact skids1_any (H0.out.1 _ hm) (H0.out.2.1.fr (H1.out.1.comp f)) (H0.out.2.2.1.frN (H1.out.1.comp f)) (f.blk H1.out.2.1 (fun q => q)) (f.blk H1.out.2.2 (fun q => q)) ((H0.out.2.2.2.2.1 j hj').frN (H1.out.1.comp f)) (by have := wtK_mem hm; have := H0.out.2.2.2.2.2.1; omega)
  · rintro e w2 ⟨v, rfl, hv, f2⟩
    have HG := Lib.hid (And.intro hv (H1.out.1.comp f2))
    clear hv f2
    go_wp2
    go_ret
    exact ⟨v, rfl, by rw [scK_first]; exact HG.out.1, HG.out.2⟩

set_option maxRecDepth 100000 in
set_option maxHeartbeats 4000000 in
theorem sbody2_any {e : TE} {p : List (List UInt8)} {cs : List Value} {lv : Value} {t4 : TypeId} (hOk : ExprOk cons e) (hc : ChkAt w cb cons) (hm : SMap w mi i.length (cnt i)) (hb1 : Blk w q1 #[.pointer (some ⟨cb, 0, none⟩)] 60) (hb2 : Blk w q2 cs.toArray 40) (hb3 : Blk w q3 #[.map (some mi)] 62) (hb4 : Blk w q4 #[lv] t4) (hE : EAt (fun _ => False) w cs e) (hr : RowS (fun _ => False) w lv p) (hl : ∀ x ∈ p, x.length ≤ maxLen) (hw : i.length + p.length + wtE e ≤ 900000) :
    Calls Tryd.prog 66 #[.pointer (some ⟨q1, 0, none⟩), .pointer (some ⟨q2, 0, none⟩), .pointer (some ⟨q3, 0, none⟩), .pointer (some ⟨q4, 0, none⟩)] w (Told (scE cons e (i ++ p) noF) w) := by
  obtain ⟨pa, pc, rfl⟩ := RowC.shape hr
  obtain ⟨pn, hpn⟩ : ∃ pn, p.length = pn := ⟨_, rfl⟩
  have HW := Lib.hid (fun w' (f : Fr Nil w w') => with_any (hm.frN f) (hr.frN f) hl (by omega))
  have HX := Lib.hid (fun w' mo (f : Fr Nil w w') (g : SMap w' mo (i ++ p).length (cnt (i ++ p))) => hOk w' cb mo (i ++ p) cs (hc.fr f) g (hE.frN f) (by rw [List.length_append]; exact hw))
  rw [hpn] at HW hb4
  obtain ⟨k, nm, fl, bi, a0, n0, c0, a1, n1, c1, a2, n2, c2, a3, n3, c3, rfl⟩ := hE.formE
  have HK : Hid (∀ w', Fr Nil w w' → w'.cell? ⟨q1, 0, none⟩ = some (.pointer (some ⟨cb, 0, none⟩)) ∧ w'.cell? ⟨q2, 0, none⟩ = some (.int .i64 (k : Int)) ∧ w'.cell? ⟨q2, 1, none⟩ = some (.string nm) ∧ w'.cell? ⟨q2, 2, none⟩ = some (.bool fl) ∧ w'.cell? ⟨q2, 3, none⟩ = some (.int .u64 (bi : Int)) ∧ w'.cell? ⟨q2, 4, none⟩ = some (.slice a0 n0 c0) ∧ w'.cell? ⟨q2, 5, none⟩ = some (.slice a1 n1 c1) ∧ w'.cell? ⟨q2, 6, none⟩ = some (.slice a2 n2 c2) ∧ w'.cell? ⟨q2, 7, none⟩ = some (.slice a3 n3 c3) ∧ w'.cell? ⟨q3, 0, none⟩ = some (.map (some mi)) ∧ w'.cell? ⟨q4, 0, none⟩ = some (.slice pa pn pc)) := Lib.hid (fun w' f => by
    have z1 := (f.blk hb1 (fun q => q)).cell 0
    have z2 := (f.blk hb2 (fun q => q)).cell
    have z3 := (f.blk hb3 (fun q => q)).cell 0
    have z4 := (f.blk hb4 (fun q => q)).cell 0
    simp at z1 z3 z4
    exact ⟨z1, z2 0, z2 1, z2 2, z2 3, z2 4, z2 5, z2 6, z2 7, z3, z4⟩)
  have l1 := hb1.lt
  have l2 := hb2.lt
  have l3 := hb3.lt
  have l4 := hb4.lt
  clear hOk hc hm hb1 hb2 hb3 hb4 hE hr hl hw hpn
  go_enter Tryd.func66, Tryd.ntmps66
  go_wp2_with fail
  go_region_held3 (fun w' => w'.cell? ⟨q1, 0, none⟩ = some (.pointer (some ⟨cb, 0, none⟩)) ∧ w'.cell? ⟨q2, 0, none⟩ = some (.int .i64 (k : Int)) ∧ w'.cell? ⟨q2, 1, none⟩ = some (.string nm) ∧ w'.cell? ⟨q2, 2, none⟩ = some (.bool fl) ∧ w'.cell? ⟨q2, 3, none⟩ = some (.int .u64 (bi : Int)) ∧ w'.cell? ⟨q2, 4, none⟩ = some (.slice a0 n0 c0) ∧ w'.cell? ⟨q2, 5, none⟩ = some (.slice a1 n1 c1) ∧ w'.cell? ⟨q2, 6, none⟩ = some (.slice a2 n2 c2) ∧ w'.cell? ⟨q2, 7, none⟩ = some (.slice a3 n3 c3) ∧ w'.cell? ⟨q3, 0, none⟩ = some (.map (some mi)) ∧ w'.cell? ⟨q4, 0, none⟩ = some (.slice pa pn pc)) (with_reducible refine HK.out _ ?_; first | assumption | (repeat (first | (with_reducible exact Fr.refl _ _) | (with_reducible assumption) | (with_reducible exact Fr.of_nil (by assumption)) | (with_reducible refine Fr.drew ?_) | (with_reducible refine Fr.drewN ?_ _) | (with_reducible refine Fr.alloc ?_ _) | (with_reducible refine Fr.set ?_ _ _ (by first | (intros; omega) | (simp; done) | (simp; omega))) | (with_reducible refine Fr.via ?_ (by assumption)) | (with_reducible refine Fr.comp ?_ (by assumption))))) (first
    | (go_at_call 67; refine (HX.out _ mo ga hmo).mono ?_; rintro r wb ⟨v, rfl, he, fb⟩; have gb : Fr Nil w wb := Fr.comp (S := Nil) ga fb; clear fb)
    | (go_at_call 24; refine (HW.out _ (by first | assumption | (repeat (first | (with_reducible exact Fr.refl _ _) | (with_reducible assumption) | (with_reducible exact Fr.of_nil (by assumption)) | (with_reducible refine Fr.drew ?_) | (with_reducible refine Fr.drewN ?_ _) | (with_reducible refine Fr.alloc ?_ _) | (with_reducible refine Fr.set ?_ _ _ (by first | (intros; omega) | (simp; done) | (simp; omega))) | (with_reducible refine Fr.via ?_ (by assumption)) | (with_reducible refine Fr.comp ?_ (by assumption)))))).mono ?_; rintro r wa ⟨mo, rfl, hmo, fa⟩; have ga : Fr Nil w wa := Fr.comp (S := Nil) (by first | assumption | (repeat (first | (with_reducible exact Fr.refl _ _) | (with_reducible assumption) | (with_reducible exact Fr.of_nil (by assumption)) | (with_reducible refine Fr.drew ?_) | (with_reducible refine Fr.drewN ?_ _) | (with_reducible refine Fr.alloc ?_ _) | (with_reducible refine Fr.set ?_ _ _ (by first | (intros; omega) | (simp; done) | (simp; omega))) | (with_reducible refine Fr.via ?_ (by assumption)) | (with_reducible refine Fr.comp ?_ (by assumption))))) fa; clear fa))
  go_wp2
  go_ret
  exact ⟨v, rfl, he, gb⟩

end
end Go.Proofs.YtpjlibbdngnnnaaDoor
