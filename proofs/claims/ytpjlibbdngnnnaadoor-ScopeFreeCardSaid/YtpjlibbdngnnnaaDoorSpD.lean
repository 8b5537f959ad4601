/-
  The program's scope (layer 10): a body; an alternative. No conditions.
-/
import Derived.Test.YtpjlibbdngnnnaaDoorSpC
namespace Go.Proofs.YtpjlibbdngnnnaaDoor
set_option linter.unusedSimpArgs false
set_option linter.unusedVariables false
open Go.RowKit

theorem fns2 {w : World} {a b : Value} {s t : FS} (h1 : FnAt w a s) (h2 : FnAt w b t) : ∀ j (h : j < [a, b].length) (h' : j < [s, t].length), FnAt w [a, b][j] [s, t][j]
  | 0, _, _ => h1
  | 1, _, _ => h2
  | n + 2, h, _ => absurd h (by simp)
theorem fns3 {w : World} {a b c : Value} {s t u : FS} (h1 : FnAt w a s) (h2 : FnAt w b t) (h3 : FnAt w c u) : ∀ j (h : j < [a, b, c].length) (h' : j < [s, t, u].length), FnAt w [a, b, c][j] [s, t, u][j]
  | 0, _, _ => h1
  | 1, _, _ => h2
  | 2, _, _ => h3
  | n + 3, h, _ => absurd h (by simp)
theorem fns4 {w : World} {a b c d : Value} {s t u x : FS} (h1 : FnAt w a s) (h2 : FnAt w b t) (h3 : FnAt w c u) (h4 : FnAt w d x) : ∀ j (h : j < [a, b, c, d].length) (h' : j < [s, t, u, x].length), FnAt w [a, b, c, d][j] [s, t, u, x][j]
  | 0, _, _ => h1
  | 1, _, _ => h2
  | 2, _, _ => h3
  | 3, _, _ => h4
  | n + 4, h, _ => absurd h (by simp)
section
variable {cons : List (List UInt8)} {w : World} {cb mi q1 q2 q3 q4 : Nat} {i : List (List UInt8)}

set_option maxRecDepth 100000 in
set_option maxHeartbeats 4000000 in
theorem sbody_any {e : TE} {p : List (List UInt8)} {cs : List Value} {lv : Value} (hOk : ExprOk cons e) (hc : ChkAt w cb cons) (hm : SMap w mi i.length (cnt i)) (hE : EAt (fun _ => False) w cs e) (hr : RowS (fun _ => False) w lv p) (hl : ∀ x ∈ p, x.length ≤ maxLen) (hw : i.length + p.length + wtE e ≤ 900000) :
    Calls Tryd.prog 33 #[.pointer (some ⟨cb, 0, none⟩), lv, .agg cs.toArray, .map (some mi)] w (Told (bodyF cons p e i) w) := by
  obtain ⟨pa, pc, rfl⟩ := RowC.shape hr
  obtain ⟨pn, hpn⟩ : ∃ pn, p.length = pn := ⟨_, rfl⟩
  have hfo := hE.formE
  have H0 := Lib.hid (And.intro hOk (And.intro hc (And.intro hm (And.intro hE (And.intro hr (And.intro hl hw))))))
  obtain ⟨k, nm, fl, bi, a0, n0, c0, a1, n1, c1, a2, n2, c2, a3, n3, c3, rfl⟩ := hfo
  rw [hpn]
  have HP := Lib.hid hpn
  clear hOk hc hm hE hr hl hw hpn
  go_enter Tryd.func33, Tryd.ntmps33
  go_wp2_with fail
  obtain ⟨W1, hW1⟩ : ∃ W1, (((w.alloc (.cells #[.pointer (some ⟨cb, 0, none⟩)] 60)).alloc (.cells #[.slice pa pn pc] 33)).alloc (.cells #[.int .i64 (k : Int), .string nm, .bool fl, .int .u64 (bi : Int), .slice a0 n0 c0, .slice a1 n1 c1, .slice a2 n2 c2, .slice a3 n3 c3] 40)).alloc (.cells #[.map (some mi)] 62) = W1 := ⟨_, rfl⟩
  rw [hW1]
  have f1 : Fr Nil w W1 := by rw [← hW1]; (repeat (first | (with_reducible exact Fr.refl _ _) | (with_reducible assumption) | (with_reducible exact Fr.of_nil (by assumption)) | (with_reducible refine Fr.drew ?_) | (with_reducible refine Fr.drewN ?_ _) | (with_reducible refine Fr.alloc ?_ _) | (with_reducible refine Fr.set ?_ _ _ (by first | (intros; omega) | (simp; done) | (simp; omega))) | (with_reducible refine Fr.via ?_ (by assumption)) | (with_reducible refine Fr.comp ?_ (by assumption))))
  have b0 : Blk W1 w.heap.size #[.pointer (some ⟨cb, 0, none⟩)] 60 := by rw [← hW1]; (unfold Blk; simp (disch := first | omega | (simp; done) | (simp; omega)) only [hp_drew, hp_drewN, hp_alloc, hp_other, hp_same, hp_new, upd_cells, Option.map_some])
  have b1 : Blk W1 (w.heap.size + 1) #[.slice pa pn pc] 33 := by rw [← hW1]; (unfold Blk; simp (disch := first | omega | (simp; done) | (simp; omega)) only [hp_drew, hp_drewN, hp_alloc, hp_other, hp_same, hp_new, upd_cells, Option.map_some])
  have b2 : Blk W1 (w.heap.size + 2) #[.int .i64 (k : Int), .string nm, .bool fl, .int .u64 (bi : Int), .slice a0 n0 c0, .slice a1 n1 c1, .slice a2 n2 c2, .slice a3 n3 c3] 40 := by rw [← hW1]; (unfold Blk; simp (disch := first | omega | (simp; done) | (simp; omega)) only [hp_drew, hp_drewN, hp_alloc, hp_other, hp_same, hp_new, upd_cells, Option.map_some])
  have b3 : Blk W1 (w.heap.size + 3) #[.map (some mi)] 62 := by rw [← hW1]; (unfold Blk; simp (disch := first | omega | (simp; done) | (simp; omega)) only [hp_drew, hp_drewN, hp_alloc, hp_other, hp_same, hp_new, upd_cells, Option.map_some])
  have z1 : W1.heap.size = w.heap.size + 4 := by rw [← hW1]; simp
  have hr1 := H0.out.2.2.2.2.1
  rw [HP.out] at hr1
  have A1 : FnAt W1 (.func (.func 65) #[] #[.pointer (some ⟨w.heap.size + 1, 0, none⟩)]) (twF p noF) :=
    ⟨_, _, rfl, enters_of Tryd.func65 (by kernel_rfl) rfl, fun w' f => c_body1_any (f.blk b1 (fun q => q)) (hr1.frN (f1.comp f)) H0.out.2.2.2.2.2.1 (by have := H0.out.2.2.2.2.2.2; omega)⟩
  have A2 : FnAt W1 (.func (.func 66) #[] #[.pointer (some ⟨w.heap.size, 0, none⟩), .pointer (some ⟨w.heap.size + 2, 0, none⟩), .pointer (some ⟨w.heap.size + 3, 0, none⟩), .pointer (some ⟨w.heap.size + 1, 0, none⟩)]) (scE cons e (i ++ p) noF) :=
    ⟨_, _, rfl, enters_of Tryd.func66 (by kernel_rfl) rfl, fun w' f => sbody2_any H0.out.1 (H0.out.2.1.fr (f1.comp f)) (H0.out.2.2.1.frN (f1.comp f)) (f.blk b0 (fun q => q)) (f.blk b2 (fun q => q)) (f.blk b3 (fun q => q)) (f.blk b1 (fun q => q)) (H0.out.2.2.2.1.frN (f1.comp f)) (hr1.frN (f1.comp f)) H0.out.2.2.2.2.2.1 H0.out.2.2.2.2.2.2⟩
  try rw [z1]
  obtain ⟨W2, hW2⟩ : ∃ W2, W1.alloc (.cells #[.func (.func 65) #[] #[.pointer (some ⟨w.heap.size + 1, 0, none⟩)], .func (.func 66) #[] #[.pointer (some ⟨w.heap.size, 0, none⟩), .pointer (some ⟨w.heap.size + 2, 0, none⟩), .pointer (some ⟨w.heap.size + 3, 0, none⟩), .pointer (some ⟨w.heap.size + 1, 0, none⟩)]] 70) = W2 := ⟨_, rfl⟩
  rw [hW2]
  have f2 : Fr Nil W1 W2 := by rw [← hW2]; (repeat (first | (with_reducible exact Fr.refl _ _) | (with_reducible assumption) | (with_reducible exact Fr.of_nil (by assumption)) | (with_reducible refine Fr.drew ?_) | (with_reducible refine Fr.drewN ?_ _) | (with_reducible refine Fr.alloc ?_ _) | (with_reducible refine Fr.set ?_ _ _ (by first | (intros; omega) | (simp; done) | (simp; omega))) | (with_reducible refine Fr.via ?_ (by assumption)) | (with_reducible refine Fr.comp ?_ (by assumption))))
  have b4 := Blk.new W1 #[.func (.func 65) #[] #[.pointer (some ⟨w.heap.size + 1, 0, none⟩)], .func (.func 66) #[] #[.pointer (some ⟨w.heap.size, 0, none⟩), .pointer (some ⟨w.heap.size + 2, 0, none⟩), .pointer (some ⟨w.heap.size + 3, 0, none⟩), .pointer (some ⟨w.heap.size + 1, 0, none⟩)]] 70
  rw [hW2, z1] at b4
  have HA := Lib.hid (first_any (n := 2) (vs := [_, _]) (ss := [_, _]) b4 rfl rfl (fns2 (A1.fr f2) (A2.fr f2)) (by decide))
  have HF := Lib.hid (f1.comp f2)
  clear f1 b0 b1 b2 b3 b4 A1 A2 f2 hr1 hW1 hW2 z1
  refine HA.out.mono ?_
  rintro e w2 ⟨v, rfl, he, f2⟩
  have HG := Lib.hid (And.intro he (HF.out.comp f2))
  clear he f2
  go_wp2
  go_ret
  exact ⟨v, rfl, HG.out.1, HG.out.2⟩

set_option maxRecDepth 100000 in
theorem slet2_any {b : TB} {cs : List Value} (hOk : ExprOk cons b.body) (hc : ChkAt w cb cons) (hm : SMap w mi i.length (cnt i)) (hb1 : Blk w q1 #[.pointer (some ⟨cb, 0, none⟩)] 60) (hb2 : Blk w q2 #[.map (some mi)] 62) (hB : BAt (fun _ => False) w cs b) (hl : ∀ x ∈ b.params, x.length ≤ maxLen) (hw : i.length + b.params.length + wtE b.body ≤ 900000) :
    Calls Tryd.prog 125 #[.agg cs.toArray, .pointer (some ⟨q1, 0, none⟩), .pointer (some ⟨q2, 0, none⟩)] w (Told (bodyF cons b.params b.body i) w) := by
  obtain ⟨bn, pa, pn, pc, k, nm, fl, bi, a0, n0, c0, a1, n1, c1, a2, n2, c2, a3, n3, c3, rfl⟩ := hB.formB
  obtain ⟨hr, hE, _⟩ := hB.parts
  have HA := Lib.hid (fun w' (f : Fr Nil w w') => sbody_any hOk (hc.fr f) (hm.frN f) (hE.frN f) (hr.frN f) hl hw)
  have t1 := hb1.cell 0
  have t2 := hb2.cell 0
  simp at t1 t2
  have l1 := hb1.lt
  have l2 := hb2.lt
  clear hOk hc hm hb1 hb2 hB hE hr hw hl
  go_enter Tryd.func125, Tryd.ntmps125
  go_wp2_with fail
  refine (HA.out _ (by (repeat (first | (with_reducible exact Fr.refl _ _) | (with_reducible assumption) | (with_reducible exact Fr.of_nil (by assumption)) | (with_reducible refine Fr.drew ?_) | (with_reducible refine Fr.drewN ?_ _) | (with_reducible refine Fr.alloc ?_ _) | (with_reducible refine Fr.set ?_ _ _ (by first | (intros; omega) | (simp; done) | (simp; omega))) | (with_reducible refine Fr.via ?_ (by assumption)) | (with_reducible refine Fr.comp ?_ (by assumption)))))).mono ?_
  rintro e w2 ⟨v, rfl, he, f2⟩
  have g2 : Fr Nil w w2 := Fr.comp (S := Nil) (by (repeat (first | (with_reducible exact Fr.refl _ _) | (with_reducible assumption) | (with_reducible exact Fr.of_nil (by assumption)) | (with_reducible refine Fr.drew ?_) | (with_reducible refine Fr.drewN ?_ _) | (with_reducible refine Fr.alloc ?_ _) | (with_reducible refine Fr.set ?_ _ _ (by first | (intros; omega) | (simp; done) | (simp; omega))) | (with_reducible refine Fr.via ?_ (by assumption)) | (with_reducible refine Fr.comp ?_ (by assumption))))) f2
  have HG := Lib.hid (And.intro he g2)
  clear he f2 g2
  go_wp2
  go_ret
  exact ⟨v, rfl, HG.out.1, HG.out.2⟩

set_option maxRecDepth 100000 in
theorem scheck4_any {b : TB} {cs : List Value} (hOk : ExprOk cons b.body) (hc : ChkAt w cb cons) (hm : SMap w mi i.length (cnt i)) (hb1 : Blk w q1 #[.pointer (some ⟨cb, 0, none⟩)] 60) (hb2 : Blk w q2 #[.map (some mi)] 62) (hB : BAt (fun _ => False) w cs b) (hl : ∀ x ∈ b.params, x.length ≤ maxLen) (hw : i.length + b.params.length + wtE b.body ≤ 900000) :
    Calls Tryd.prog 32 #[.agg cs.toArray, .pointer (some ⟨q1, 0, none⟩), .pointer (some ⟨q2, 0, none⟩)] w (Told (bodyF cons b.params b.body i) w) := by
  obtain ⟨bn, pa, pn, pc, k, nm, fl, bi, a0, n0, c0, a1, n1, c1, a2, n2, c2, a3, n3, c3, rfl⟩ := hB.formB
  obtain ⟨hr, hE, _⟩ := hB.parts
  have HA := Lib.hid (fun w' (f : Fr Nil w w') => sbody_any hOk (hc.fr f) (hm.frN f) (hE.frN f) (hr.frN f) hl hw)
  have t1 := hb1.cell 0
  have t2 := hb2.cell 0
  simp at t1 t2
  have l1 := hb1.lt
  have l2 := hb2.lt
  clear hOk hc hm hb1 hb2 hB hE hr hw hl
  go_enter Tryd.func32, Tryd.ntmps32
  go_wp2_with fail
  refine (HA.out _ (by (repeat (first | (with_reducible exact Fr.refl _ _) | (with_reducible assumption) | (with_reducible exact Fr.of_nil (by assumption)) | (with_reducible refine Fr.drew ?_) | (with_reducible refine Fr.drewN ?_ _) | (with_reducible refine Fr.alloc ?_ _) | (with_reducible refine Fr.set ?_ _ _ (by first | (intros; omega) | (simp; done) | (simp; omega))) | (with_reducible refine Fr.via ?_ (by assumption)) | (with_reducible refine Fr.comp ?_ (by assumption)))))).mono ?_
  rintro e w2 ⟨v, rfl, he, f2⟩
  have g2 : Fr Nil w w2 := Fr.comp (S := Nil) (by (repeat (first | (with_reducible exact Fr.refl _ _) | (with_reducible assumption) | (with_reducible exact Fr.of_nil (by assumption)) | (with_reducible refine Fr.drew ?_) | (with_reducible refine Fr.drewN ?_ _) | (with_reducible refine Fr.alloc ?_ _) | (with_reducible refine Fr.set ?_ _ _ (by first | (intros; omega) | (simp; done) | (simp; omega))) | (with_reducible refine Fr.via ?_ (by assumption)) | (with_reducible refine Fr.comp ?_ (by assumption))))) f2
  have HG := Lib.hid (And.intro he g2)
  clear he f2 g2
  go_wp2
  go_ret
  exact ⟨v, rfl, HG.out.1, HG.out.2⟩

set_option maxRecDepth 100000 in
theorem sexpr1_any {n : List UInt8} {c : Array Value} {t : TypeId} (hc : ChkAt w cb cons) (hb1 : Blk w q1 #[.pointer (some ⟨cb, 0, none⟩)] 60) (hb2 : Blk w q2 c t) (h1 : c[1]? = some (.string ⟨n.toArray⟩)) (hn : n.length ≤ maxLen) :
    Calls Tryd.prog 101 #[.pointer (some ⟨q1, 0, none⟩), .pointer (some ⟨q2, 0, none⟩)] w (Told (conS cons n noF) w) := by
  have HA := Lib.hid (scon_any hc hn)
  have t1 := hb1.cell 0
  have t2 := hb2.cell 1
  rw [h1] at t2
  simp at t1
  have l1 := hb1.lt
  have l2 := hb2.lt
  clear hc hb1 hb2 hn h1
  go_enter Tryd.func101, Tryd.ntmps101
  go_wp2_with fail
  refine HA.out.mono ?_
  rintro e w2 ⟨v, rfl, he, f2⟩
  have g2 : Fr Nil w w2 := Fr.comp (S := Nil) (by (repeat (first | (with_reducible exact Fr.refl _ _) | (with_reducible assumption) | (with_reducible exact Fr.of_nil (by assumption)) | (with_reducible refine Fr.drew ?_) | (with_reducible refine Fr.drewN ?_ _) | (with_reducible refine Fr.alloc ?_ _) | (with_reducible refine Fr.set ?_ _ _ (by first | (intros; omega) | (simp; done) | (simp; omega))) | (with_reducible refine Fr.via ?_ (by assumption)) | (with_reducible refine Fr.comp ?_ (by assumption))))) f2
  have HG := Lib.hid (And.intro he g2)
  clear he f2 g2
  go_wp2
  go_ret
  exact ⟨v, rfl, HG.out.1, HG.out.2⟩

set_option maxRecDepth 100000 in
theorem salt1_any {n : List UInt8} {c : Array Value} {t : TypeId} (hc : ChkAt w cb cons) (hb1 : Blk w q1 #[.pointer (some ⟨cb, 0, none⟩)] 60) (hb2 : Blk w q2 c t) (h1 : c[1]? = some (.string ⟨n.toArray⟩)) (hn : n.length ≤ maxLen) :
    Calls Tryd.prog 127 #[.pointer (some ⟨q1, 0, none⟩), .pointer (some ⟨q2, 0, none⟩)] w (Told (conS cons n noF) w) := by
  have HA := Lib.hid (scon_any hc hn)
  have t1 := hb1.cell 0
  have t2 := hb2.cell 1
  rw [h1] at t2
  simp at t1
  have l1 := hb1.lt
  have l2 := hb2.lt
  clear hc hb1 hb2 hn h1
  go_enter Tryd.func127, Tryd.ntmps127
  go_wp2_with fail
  refine HA.out.mono ?_
  rintro e w2 ⟨v, rfl, he, f2⟩
  have g2 : Fr Nil w w2 := Fr.comp (S := Nil) (by (repeat (first | (with_reducible exact Fr.refl _ _) | (with_reducible assumption) | (with_reducible exact Fr.of_nil (by assumption)) | (with_reducible refine Fr.drew ?_) | (with_reducible refine Fr.drewN ?_ _) | (with_reducible refine Fr.alloc ?_ _) | (with_reducible refine Fr.set ?_ _ _ (by first | (intros; omega) | (simp; done) | (simp; omega))) | (with_reducible refine Fr.via ?_ (by assumption)) | (with_reducible refine Fr.comp ?_ (by assumption))))) f2
  have HG := Lib.hid (And.intro he g2)
  clear he f2 g2
  go_wp2
  go_ret
  exact ⟨v, rfl, HG.out.1, HG.out.2⟩

set_option maxRecDepth 100000 in
theorem sexpr3_any {l : List (List UInt8)} {c : Array Value} {t : TypeId} {lv : Value} (hb1 : Blk w q1 c t) (h1 : c[4]? = some lv) (hr : RowS (fun _ => False) w lv l) (hl : ∀ x ∈ l, x.length ≤ maxLen) (hn : l.length ≤ 900000) :
    Calls Tryd.prog 108 #[.pointer (some ⟨q1, 0, none⟩)] w (Told (twF l noF) w) := by
  have t1 := hb1.cell 4
  rw [h1] at t1
  have l1 := hb1.lt
  obtain ⟨a, cap, rfl⟩ := RowC.shape hr
  obtain ⟨m, hm⟩ : ∃ m, l.length = m := ⟨_, rfl⟩
  have HA := Lib.hid (twice_any hr hl hn)
  rw [hm] at HA t1
  clear hb1 hr hl hn hm h1
  go_enter Tryd.func108, Tryd.ntmps108
  go_wp2_with fail
  refine HA.out.mono ?_
  rintro e w2 ⟨v, rfl, he, f2⟩
  have g2 : Fr Nil w w2 := Fr.comp (S := Nil) (by (repeat (first | (with_reducible exact Fr.refl _ _) | (with_reducible assumption) | (with_reducible exact Fr.of_nil (by assumption)) | (with_reducible refine Fr.drew ?_) | (with_reducible refine Fr.drewN ?_ _) | (with_reducible refine Fr.alloc ?_ _) | (with_reducible refine Fr.set ?_ _ _ (by first | (intros; omega) | (simp; done) | (simp; omega))) | (with_reducible refine Fr.via ?_ (by assumption)) | (with_reducible refine Fr.comp ?_ (by assumption))))) f2
  have HG := Lib.hid (And.intro he g2)
  clear he f2 g2
  go_wp2
  go_ret
  exact ⟨v, rfl, HG.out.1, HG.out.2⟩

set_option maxRecDepth 100000 in
theorem salt2_any {a : TA} {cs : List Value} {t : TypeId} (hOk : ExprOk cons a.body) (hc : ChkAt w cb cons) (hm : SMap w mi i.length (cnt i)) (hb1 : Blk w q1 #[.pointer (some ⟨cb, 0, none⟩)] 60) (hb2 : Blk w q2 cs.toArray t) (hb3 : Blk w q3 #[.map (some mi)] 62) (hA : AAt (fun _ => False) w cs a) (hl : ∀ x ∈ a.names, x.length ≤ maxLen) (hw : i.length + a.names.length + wtE a.body ≤ 900000) :
    Calls Tryd.prog 128 #[.pointer (some ⟨q1, 0, none⟩), .pointer (some ⟨q2, 0, none⟩), .pointer (some ⟨q3, 0, none⟩)] w (Told (bodyF cons a.names a.body i) w) := by
  obtain ⟨tk, tn, tf, tb, pa, pn, pc, k, nm, fl, bi, a0, n0, c0, a1, n1, c1, a2, n2, c2, a3, n3, c3, rfl⟩ := hA.formA
  obtain ⟨hr, hE, _⟩ := hA.parts
  have HA := Lib.hid (fun w' (f : Fr Nil w w') => sbody_any hOk (hc.fr f) (hm.frN f) (hE.frN f) (hr.frN f) hl hw)
  have t1 := hb1.cell 0
  have t3 := hb3.cell 0
  simp at t1 t3
  have u4 := hb2.cell 4
  have u5 := hb2.cell 5
  have u6 := hb2.cell 6
  have u7 := hb2.cell 7
  have u8 := hb2.cell 8
  have u9 := hb2.cell 9
  have u10 := hb2.cell 10
  have u11 := hb2.cell 11
  have u12 := hb2.cell 12
  simp at u4 u5 u6 u7 u8 u9 u10 u11 u12
  have l1 := hb1.lt
  have l2 := hb2.lt
  have l3 := hb3.lt
  clear hOk hc hm hb1 hb2 hb3 hA hE hr hw hl
  go_enter Tryd.func128, Tryd.ntmps128
  go_wp2_with fail
  refine (HA.out _ (by (repeat (first | (with_reducible exact Fr.refl _ _) | (with_reducible assumption) | (with_reducible exact Fr.of_nil (by assumption)) | (with_reducible refine Fr.drew ?_) | (with_reducible refine Fr.drewN ?_ _) | (with_reducible refine Fr.alloc ?_ _) | (with_reducible refine Fr.set ?_ _ _ (by first | (intros; omega) | (simp; done) | (simp; omega))) | (with_reducible refine Fr.via ?_ (by assumption)) | (with_reducible refine Fr.comp ?_ (by assumption)))))).mono ?_
  rintro e w2 ⟨v, rfl, he, f2⟩
  have g2 : Fr Nil w w2 := Fr.comp (S := Nil) (by (repeat (first | (with_reducible exact Fr.refl _ _) | (with_reducible assumption) | (with_reducible exact Fr.of_nil (by assumption)) | (with_reducible refine Fr.drew ?_) | (with_reducible refine Fr.drewN ?_ _) | (with_reducible refine Fr.alloc ?_ _) | (with_reducible refine Fr.set ?_ _ _ (by first | (intros; omega) | (simp; done) | (simp; omega))) | (with_reducible refine Fr.via ?_ (by assumption)) | (with_reducible refine Fr.comp ?_ (by assumption))))) f2
  have HG := Lib.hid (And.intro he g2)
  clear he f2 g2
  go_wp2
  go_ret
  exact ⟨v, rfl, HG.out.1, HG.out.2⟩

set_option maxRecDepth 100000 in
set_option maxHeartbeats 4000000 in
theorem salt_any {a : TA} {cs : List Value} (hOk : ExprOk cons a.body) (hc : ChkAt w cb cons) (hm : SMap w mi i.length (cnt i)) (hA : AAt (fun _ => False) w cs a) (hln : a.name.length ≤ maxLen) (hl : ∀ x ∈ a.names, x.length ≤ maxLen) (hw : i.length + 1 + a.names.length + wtE a.body ≤ 900000) :
    Calls Tryd.prog 107 #[.pointer (some ⟨cb, 0, none⟩), .agg cs.toArray, .map (some mi)] w (Told (alt1F cons a i) w) := by
  obtain ⟨tk, tn, tf, tb, pa, pn, pc, k, nm, fl, bi, a0, n0, c0, a1, n1, c1, a2, n2, c2, a3, n3, c3, rfl⟩ := hA.formA
  obtain ⟨hr, hE, etn, etk⟩ := hA.parts
  have H0 := Lib.hid (And.intro hOk (And.intro hc (And.intro hm (And.intro hA (And.intro hr (And.intro hE (And.intro hln (And.intro hl (And.intro hw (And.intro etn etk))))))))))
  clear hOk hc hm hA hr hE hln hl hw
  by_cases k0 : a.kind = 0
  · obtain rfl : tk = 0 := by omega
    have HV : Hid (alt1F cons a i = firstF [conS cons a.name noF, bodyF cons a.names a.body i]) := Lib.hid (by unfold alt1F; rw [if_pos k0])
    clear k0 etn etk
    go_enter Tryd.func107, Tryd.ntmps107
    go_wp2_with fail
    obtain ⟨W1, hW1⟩ : ∃ W1, ((w.alloc (.cells #[.pointer (some ⟨cb, 0, none⟩)] 60)).alloc (.cells #[.int .i64 0, .string tn, .bool tf, .int .u64 (tb : Int), .slice pa pn pc, .int .i64 (k : Int), .string nm, .bool fl, .int .u64 (bi : Int), .slice a0 n0 c0, .slice a1 n1 c1, .slice a2 n2 c2, .slice a3 n3 c3] 47)).alloc (.cells #[.map (some mi)] 62) = W1 := ⟨_, rfl⟩
    try rw [hW1]
    have f1 : Fr Nil w W1 := by rw [← hW1]; (repeat (first | (with_reducible exact Fr.refl _ _) | (with_reducible assumption) | (with_reducible exact Fr.of_nil (by assumption)) | (with_reducible refine Fr.drew ?_) | (with_reducible refine Fr.drewN ?_ _) | (with_reducible refine Fr.alloc ?_ _) | (with_reducible refine Fr.set ?_ _ _ (by first | (intros; omega) | (simp; done) | (simp; omega))) | (with_reducible refine Fr.via ?_ (by assumption)) | (with_reducible refine Fr.comp ?_ (by assumption))))
    have b0 : Blk W1 w.heap.size #[.pointer (some ⟨cb, 0, none⟩)] 60 := by rw [← hW1]; (unfold Blk; simp (disch := first | omega | (simp; done) | (simp; omega)) only [hp_drew, hp_drewN, hp_alloc, hp_other, hp_same, hp_new, upd_cells, Option.map_some])
    have b1 : Blk W1 (w.heap.size + 1) #[.int .i64 0, .string tn, .bool tf, .int .u64 (tb : Int), .slice pa pn pc, .int .i64 (k : Int), .string nm, .bool fl, .int .u64 (bi : Int), .slice a0 n0 c0, .slice a1 n1 c1, .slice a2 n2 c2, .slice a3 n3 c3] 47 := by rw [← hW1]; (unfold Blk; simp (disch := first | omega | (simp; done) | (simp; omega)) only [hp_drew, hp_drewN, hp_alloc, hp_other, hp_same, hp_new, upd_cells, Option.map_some])
    have b2 : Blk W1 (w.heap.size + 2) #[.map (some mi)] 62 := by rw [← hW1]; (unfold Blk; simp (disch := first | omega | (simp; done) | (simp; omega)) only [hp_drew, hp_drewN, hp_alloc, hp_other, hp_same, hp_new, upd_cells, Option.map_some])
    have z1 : W1.heap.size = w.heap.size + 3 := by rw [← hW1]; simp
    have A1 : FnAt W1 (.func (.func 127) #[] #[.pointer (some ⟨w.heap.size, 0, none⟩), .pointer (some ⟨w.heap.size + 1, 0, none⟩)]) (conS cons a.name noF) :=
      ⟨_, _, rfl, enters_of Tryd.func127 (by kernel_rfl) rfl, fun w' f => salt1_any (H0.out.2.1.fr (f1.comp f)) (f.blk b0 (fun q => q)) (f.blk b1 (fun q => q)) (by simp [H0.out.2.2.2.2.2.2.2.2.2.1]) H0.out.2.2.2.2.2.2.1⟩
    have A2 : FnAt W1 (.func (.func 128) #[] #[.pointer (some ⟨w.heap.size, 0, none⟩), .pointer (some ⟨w.heap.size + 1, 0, none⟩), .pointer (some ⟨w.heap.size + 2, 0, none⟩)]) (bodyF cons a.names a.body i) :=
      ⟨_, _, rfl, enters_of Tryd.func128 (by kernel_rfl) rfl, fun w' f => salt2_any H0.out.1 (H0.out.2.1.fr (f1.comp f)) (H0.out.2.2.1.frN (f1.comp f)) (f.blk b0 (fun q => q)) (f.blk b1 (fun q => q)) (f.blk b2 (fun q => q)) (H0.out.2.2.2.1.frN (f1.comp f)) H0.out.2.2.2.2.2.2.2.1 (by have := H0.out.2.2.2.2.2.2.2.2.1; omega)⟩
    try rw [z1]
    obtain ⟨W2, hW2⟩ : ∃ W2, W1.alloc (.cells #[(.func (.func 127) #[] #[.pointer (some ⟨w.heap.size, 0, none⟩), .pointer (some ⟨w.heap.size + 1, 0, none⟩)]), (.func (.func 128) #[] #[.pointer (some ⟨w.heap.size, 0, none⟩), .pointer (some ⟨w.heap.size + 1, 0, none⟩), .pointer (some ⟨w.heap.size + 2, 0, none⟩)])] 70) = W2 := ⟨_, rfl⟩
    rw [hW2]
    have f2 : Fr Nil W1 W2 := by rw [← hW2]; (repeat (first | (with_reducible exact Fr.refl _ _) | (with_reducible assumption) | (with_reducible exact Fr.of_nil (by assumption)) | (with_reducible refine Fr.drew ?_) | (with_reducible refine Fr.drewN ?_ _) | (with_reducible refine Fr.alloc ?_ _) | (with_reducible refine Fr.set ?_ _ _ (by first | (intros; omega) | (simp; done) | (simp; omega))) | (with_reducible refine Fr.via ?_ (by assumption)) | (with_reducible refine Fr.comp ?_ (by assumption))))
    have b4 := Blk.new W1 #[(.func (.func 127) #[] #[.pointer (some ⟨w.heap.size, 0, none⟩), .pointer (some ⟨w.heap.size + 1, 0, none⟩)]), (.func (.func 128) #[] #[.pointer (some ⟨w.heap.size, 0, none⟩), .pointer (some ⟨w.heap.size + 1, 0, none⟩), .pointer (some ⟨w.heap.size + 2, 0, none⟩)])] 70
    rw [hW2, z1] at b4
    have HA := Lib.hid (first_any (n := 2) (vs := [_, _]) (ss := [_, _]) b4 rfl rfl (fns2 (A1.fr f2) (A2.fr f2)) (by decide))
    have HF := Lib.hid (f1.comp f2)
    clear f1 b0 b1 b2 b4 A1 A2 f2 hW1 hW2 z1
    refine HA.out.mono ?_
    rintro e w2 ⟨v, rfl, he, f2⟩
    have HG := Lib.hid (And.intro he (HF.out.comp f2))
    clear he f2
    go_wp2
    go_ret
    exact ⟨v, rfl, by rw [HV.out]; exact HG.out.1, HG.out.2⟩
  · by_cases k2 : a.kind = 2
    · obtain rfl : tk = 2 := by omega
      have HV : Hid (alt1F cons a i = bodyF cons [a.name] a.body i) := Lib.hid (by unfold alt1F; rw [if_neg k0, if_pos k2])
      clear k0 k2 etn etk
      go_enter Tryd.func107, Tryd.ntmps107
      go_wp2_with fail
      obtain ⟨W1, hW1⟩ : ∃ W1, ((w.alloc (.cells #[.pointer (some ⟨cb, 0, none⟩)] 60)).alloc (.cells #[.int .i64 2, .string tn, .bool tf, .int .u64 (tb : Int), .slice pa pn pc, .int .i64 (k : Int), .string nm, .bool fl, .int .u64 (bi : Int), .slice a0 n0 c0, .slice a1 n1 c1, .slice a2 n2 c2, .slice a3 n3 c3] 47)).alloc (.cells #[.map (some mi)] 62) = W1 := ⟨_, rfl⟩
      try rw [hW1]
      have f1 : Fr Nil w W1 := by rw [← hW1]; (repeat (first | (with_reducible exact Fr.refl _ _) | (with_reducible assumption) | (with_reducible exact Fr.of_nil (by assumption)) | (with_reducible refine Fr.drew ?_) | (with_reducible refine Fr.drewN ?_ _) | (with_reducible refine Fr.alloc ?_ _) | (with_reducible refine Fr.set ?_ _ _ (by first | (intros; omega) | (simp; done) | (simp; omega))) | (with_reducible refine Fr.via ?_ (by assumption)) | (with_reducible refine Fr.comp ?_ (by assumption))))
      have b0 : Blk W1 w.heap.size #[.pointer (some ⟨cb, 0, none⟩)] 60 := by rw [← hW1]; (unfold Blk; simp (disch := first | omega | (simp; done) | (simp; omega)) only [hp_drew, hp_drewN, hp_alloc, hp_other, hp_same, hp_new, upd_cells, Option.map_some])
      have b1 : Blk W1 (w.heap.size + 1) #[.int .i64 2, .string tn, .bool tf, .int .u64 (tb : Int), .slice pa pn pc, .int .i64 (k : Int), .string nm, .bool fl, .int .u64 (bi : Int), .slice a0 n0 c0, .slice a1 n1 c1, .slice a2 n2 c2, .slice a3 n3 c3] 47 := by rw [← hW1]; (unfold Blk; simp (disch := first | omega | (simp; done) | (simp; omega)) only [hp_drew, hp_drewN, hp_alloc, hp_other, hp_same, hp_new, upd_cells, Option.map_some])
      have b2 : Blk W1 (w.heap.size + 2) #[.map (some mi)] 62 := by rw [← hW1]; (unfold Blk; simp (disch := first | omega | (simp; done) | (simp; omega)) only [hp_drew, hp_drewN, hp_alloc, hp_other, hp_same, hp_new, upd_cells, Option.map_some])
      have z1 : W1.heap.size = w.heap.size + 3 := by rw [← hW1]; simp
      clear b0 b1 b2
      try rw [z1]
      obtain ⟨W2, hW2⟩ : ∃ W2, W1.alloc (.cells #[.string tn] 9) = W2 := ⟨_, rfl⟩
      rw [hW2]
      have f2 : Fr Nil W1 W2 := by rw [← hW2]; (repeat (first | (with_reducible exact Fr.refl _ _) | (with_reducible assumption) | (with_reducible exact Fr.of_nil (by assumption)) | (with_reducible refine Fr.drew ?_) | (with_reducible refine Fr.drewN ?_ _) | (with_reducible refine Fr.alloc ?_ _) | (with_reducible refine Fr.set ?_ _ _ (by first | (intros; omega) | (simp; done) | (simp; omega))) | (with_reducible refine Fr.via ?_ (by assumption)) | (with_reducible refine Fr.comp ?_ (by assumption))))
      have b4 := Blk.new W1 #[.string tn] 9
      rw [hW2, z1, H0.out.2.2.2.2.2.2.2.2.2.1] at b4
      have HA := Lib.hid (sbody_any (p := [a.name]) H0.out.1 (H0.out.2.1.fr (f1.comp f2)) (H0.out.2.2.1.frN (f1.comp f2)) (H0.out.2.2.2.2.2.1.frN (f1.comp f2)) (RowS.single (X := fun _ => False) b4 (fun q => q)) (fun x hx => by rw [List.mem_singleton] at hx; rw [hx]; exact H0.out.2.2.2.2.2.2.1) (by have := H0.out.2.2.2.2.2.2.2.2.1; simp only [List.length_singleton]; omega))
      have HF := Lib.hid (f1.comp f2)
      clear f1 b4 f2 hW1 hW2 z1
      refine HA.out.mono ?_
      rintro e w2 ⟨v, rfl, he, f2⟩
      have HG := Lib.hid (And.intro he (HF.out.comp f2))
      clear he f2
      go_wp2
      go_ret
      exact ⟨v, rfl, by rw [HV.out]; exact HG.out.1, HG.out.2⟩
    · have d0 : ((tk : Int) == 0) = false := by simp; omega
      have d2 : ((tk : Int) == 2) = false := by rw [beq_eq_false_iff_ne]; omega
      have HV : Hid (alt1F cons a i = scE cons a.body i noF) := Lib.hid (by unfold alt1F; rw [if_neg k0, if_neg k2])
      clear k0 k2 etn etk
      go_enter Tryd.func107, Tryd.ntmps107
      go_wp2_with fail
      refine (H0.out.1 _ cb mi i _ (H0.out.2.1.fr (by (repeat (first | (with_reducible exact Fr.refl _ _) | (with_reducible assumption) | (with_reducible exact Fr.of_nil (by assumption)) | (with_reducible refine Fr.drew ?_) | (with_reducible refine Fr.drewN ?_ _) | (with_reducible refine Fr.alloc ?_ _) | (with_reducible refine Fr.set ?_ _ _ (by first | (intros; omega) | (simp; done) | (simp; omega))) | (with_reducible refine Fr.via ?_ (by assumption)) | (with_reducible refine Fr.comp ?_ (by assumption)))))) (H0.out.2.2.1.frN (by (repeat (first | (with_reducible exact Fr.refl _ _) | (with_reducible assumption) | (with_reducible exact Fr.of_nil (by assumption)) | (with_reducible refine Fr.drew ?_) | (with_reducible refine Fr.drewN ?_ _) | (with_reducible refine Fr.alloc ?_ _) | (with_reducible refine Fr.set ?_ _ _ (by first | (intros; omega) | (simp; done) | (simp; omega))) | (with_reducible refine Fr.via ?_ (by assumption)) | (with_reducible refine Fr.comp ?_ (by assumption)))))) (H0.out.2.2.2.2.2.1.frN (by (repeat (first | (with_reducible exact Fr.refl _ _) | (with_reducible assumption) | (with_reducible exact Fr.of_nil (by assumption)) | (with_reducible refine Fr.drew ?_) | (with_reducible refine Fr.drewN ?_ _) | (with_reducible refine Fr.alloc ?_ _) | (with_reducible refine Fr.set ?_ _ _ (by first | (intros; omega) | (simp; done) | (simp; omega))) | (with_reducible refine Fr.via ?_ (by assumption)) | (with_reducible refine Fr.comp ?_ (by assumption)))))) (by have := H0.out.2.2.2.2.2.2.2.2.1; omega)).mono ?_
      rintro e w2 ⟨v, rfl, he, f2⟩
      have g2 : Fr Nil w w2 := Fr.comp (S := Nil) (by (repeat (first | (with_reducible exact Fr.refl _ _) | (with_reducible assumption) | (with_reducible exact Fr.of_nil (by assumption)) | (with_reducible refine Fr.drew ?_) | (with_reducible refine Fr.drewN ?_ _) | (with_reducible refine Fr.alloc ?_ _) | (with_reducible refine Fr.set ?_ _ _ (by first | (intros; omega) | (simp; done) | (simp; omega))) | (with_reducible refine Fr.via ?_ (by assumption)) | (with_reducible refine Fr.comp ?_ (by assumption))))) f2
      have HG := Lib.hid (And.intro he g2)
      clear he f2 g2
      go_wp2
      go_ret
      exact ⟨v, rfl, by rw [HV.out]; exact HG.out.1, HG.out.2⟩

set_option maxRecDepth 100000 in
theorem sexpr2_any {a : TA} {cs : List Value} (hOk : ExprOk cons a.body) (hc : ChkAt w cb cons) (hm : SMap w mi i.length (cnt i)) (hb1 : Blk w q1 #[.pointer (some ⟨cb, 0, none⟩)] 60) (hb2 : Blk w q2 #[.map (some mi)] 62) (hA : AAt (fun _ => False) w cs a) (hln : a.name.length ≤ maxLen) (hl : ∀ x ∈ a.names, x.length ≤ maxLen) (hw : i.length + 1 + a.names.length + wtE a.body ≤ 900000) :
    Calls Tryd.prog 106 #[.agg cs.toArray, .pointer (some ⟨q1, 0, none⟩), .pointer (some ⟨q2, 0, none⟩)] w (Told (alt1F cons a i) w) := by
  have HA := Lib.hid (fun w' (f : Fr Nil w w') => salt_any hOk (hc.fr f) (hm.frN f) (hA.frN f) hln hl hw)
  obtain ⟨tk, tn, tf, tb, pa, pn, pc, k, nm, fl, bi, a0, n0, c0, a1, n1, c1, a2, n2, c2, a3, n3, c3, rfl⟩ := hA.formA
  have t1 := hb1.cell 0
  have t2 := hb2.cell 0
  simp at t1 t2
  have l1 := hb1.lt
  have l2 := hb2.lt
  clear hOk hc hm hb1 hb2 hA hln hl hw
  go_enter Tryd.func106, Tryd.ntmps106
  go_wp2_with fail
  refine (HA.out _ (by (repeat (first | (with_reducible exact Fr.refl _ _) | (with_reducible assumption) | (with_reducible exact Fr.of_nil (by assumption)) | (with_reducible refine Fr.drew ?_) | (with_reducible refine Fr.drewN ?_ _) | (with_reducible refine Fr.alloc ?_ _) | (with_reducible refine Fr.set ?_ _ _ (by first | (intros; omega) | (simp; done) | (simp; omega))) | (with_reducible refine Fr.via ?_ (by assumption)) | (with_reducible refine Fr.comp ?_ (by assumption)))))).mono ?_
  rintro e w2 ⟨v, rfl, he, f2⟩
  have g2 : Fr Nil w w2 := Fr.comp (S := Nil) (by (repeat (first | (with_reducible exact Fr.refl _ _) | (with_reducible assumption) | (with_reducible exact Fr.of_nil (by assumption)) | (with_reducible refine Fr.drew ?_) | (with_reducible refine Fr.drewN ?_ _) | (with_reducible refine Fr.alloc ?_ _) | (with_reducible refine Fr.set ?_ _ _ (by first | (intros; omega) | (simp; done) | (simp; omega))) | (with_reducible refine Fr.via ?_ (by assumption)) | (with_reducible refine Fr.comp ?_ (by assumption))))) f2
  have HG := Lib.hid (And.intro he g2)
  clear he f2 g2
  go_wp2
  go_ret
  exact ⟨v, rfl, HG.out.1, HG.out.2⟩

end
end Go.Proofs.YtpjlibbdngnnnaaDoor
