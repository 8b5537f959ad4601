/-
  The program's scope (layer 10): binds of a let; every expression. No conditions.
-/
import Derived.Test.YtpjlibbdngnnnaaDoorSpD
namespace Go.Proofs.YtpjlibbdngnnnaaDoor
set_option linter.unusedSimpArgs false
set_option linter.unusedVariables false
open Go.RowKit

theorem nmB_take {bs : List TB} {i : Nat} (h : i < bs.length) : nmB (bs.take (i + 1)) = nmB (bs.take i) ++ [bs[i].name] := by
  rw [List.take_succ_eq_append_getElem h]
  unfold nmB
  rw [List.map_append]
  rfl
theorem FnAt.mk {w : World} {gf : Nat} {p : Array Value} {s : FS} (h1 : Enters Tryd.prog gf) (h2 : ∀ w', Fr Nil w w' → Calls Tryd.prog gf p w' (Told s w')) : FnAt w (.func (.func gf) #[] p) s := ⟨gf, p, rfl, h1, h2⟩
theorem SMap.ne {w : World} {b n q : Nat} {f : List UInt8 → Int} {c : Array Value} {t : TypeId} (h : SMap w b n f) (hb : Blk w q c t) : ¬ b = q := by
  rintro rfl
  obtain ⟨D, ⟨es, cl, hh, _⟩, _⟩ := h
  unfold Blk at hb
  rw [hh] at hb
  cases hb
theorem okB_nm : ∀ {bs : List TB}, okB bs → ∀ x ∈ nmB bs, x.length ≤ maxLen
  | [], _, x, hx => by simp [nmB] at hx
  | .mk n p e :: l, h, x, hx => by
    unfold nmB at hx
    rw [List.map_cons] at hx
    rcases List.mem_cons.1 hx with q | q
    · rw [q]; exact h.1.1
    · exact okB_nm h.2 x q
theorem wnB_mem : ∀ {bs : List TB} {b : TB}, b ∈ bs → wtE b.body + b.params.length ≤ wnB bs
  | .mk n p e :: l, b, hm => by
    unfold wnB
    rcases List.mem_cons.1 hm with q | q
    · subst q
      show wtE e + p.length ≤ _
      omega
    · have := wnB_mem q
      omega
section
variable {cons : List (List UInt8)} {w : World} {cb mi q1 q2 q3 q4 : Nat} {i : List (List UInt8)}

set_option maxRecDepth 100000 in
set_option maxHeartbeats 8000000 in
theorem slet_any {nm : List UInt8} {fl : Bool} {bi : Nat} {ps : List (List UInt8)} {ks : List TE} {bs : List TB} {al : List TA} {cs : List Value} (hK : ∀ e ∈ ks, ExprOk cons e) (hBo : ∀ b ∈ bs, ExprOk cons b.body) (hc : ChkAt w cb cons) (hm : SMap w mi i.length (cnt i)) (hE : EAt (fun _ => False) w cs (.mk 6 nm fl bi ps ks bs al)) (hob : okB bs) (hw : i.length + bs.length + wnB bs + wtK ks ≤ 900000) :
    Calls Tryd.prog 104 #[.pointer (some ⟨cb, 0, none⟩), .agg cs.toArray, .map (some mi)] w (Told (firstF [twF (nmB bs) noF, scB cons bs (i ++ nmB bs) noF, scK cons ks (i ++ nmB bs) noF]) w) := by
  obtain ⟨i0, hi, hz0, hz1, hz2⟩ := info_parts infoS
  have hE0 := hE
  obtain ⟨a0, c0, a1, c1, a2, c2, a3, c3, kc, bc, ac, rfl, hp, hk, hk2, hb, hb2', ha, ha2⟩ := hE.opened
  obtain ⟨nk, hnk⟩ : ∃ nk, ks.length = nk := ⟨_, rfl⟩
  obtain ⟨nb, hnb⟩ : ∃ nb, bs.length = nb := ⟨_, rfl⟩
  obtain ⟨na, hna⟩ : ∃ na, al.length = na := ⟨_, rfl⟩
  obtain ⟨np, hnp⟩ : ∃ np, ps.length = np := ⟨_, rfl⟩
  rw [hnk] at hk
  rw [hnb] at hb
  rw [hna] at ha
  rw [hnp] at hp
  rw [hnk, hnb, hna, hnp]
  have hnb9 : nb ≤ 900000 := by omega
  have H0 := Lib.hid (And.intro hK (And.intro hBo (And.intro hc (And.intro hm (And.intro hb (And.intro hb2' (And.intro hob (And.intro hw (And.intro hnb hnk)))))))))
  rw [hnk, hnb, hna, hnp] at hE0
  have HE0 := Lib.hid hE0
  clear hK hBo hc hm hE hE0 hob hw hp hk hk2 hb hb2' ha ha2 hnk hnb hna hnp
  obtain ⟨T, hT⟩ : ∃ T, w.heap.size = T := ⟨_, rfl⟩
  go_enter Tryd.func104, Tryd.ntmps104
  go_upto_region 2 with fail
  try rw [hT]
  obtain ⟨W1, hW1⟩ : ∃ W1, (((w.alloc (.cells #[.pointer (some ⟨cb, 0, none⟩)] 60)).alloc (.cells #[.int .i64 6, .string ⟨nm.toArray⟩, .bool fl, .int .u64 (bi : Int), .slice a0 np c0, .slice a1 nk c1, .slice a2 nb c2, .slice a3 na c3] 40)).alloc (.cells #[.map (some mi)] 62)).alloc (.cells #[.slice none 0 0] 33) = W1 := ⟨_, rfl⟩
  rw [hW1]
  have f1 : Fr Nil w W1 := by rw [← hW1]; (repeat (first | (with_reducible exact Fr.refl _ _) | (with_reducible assumption) | (with_reducible exact Fr.of_nil (by assumption)) | (with_reducible refine Fr.drew ?_) | (with_reducible refine Fr.drewN ?_ _) | (with_reducible refine Fr.alloc ?_ _) | (with_reducible refine Fr.set ?_ _ _ (by first | (intros; omega) | (simp; done) | (simp; omega))) | (with_reducible refine Fr.via ?_ (by assumption)) | (with_reducible refine Fr.comp ?_ (by assumption))))
  have b0 : Blk W1 T #[.pointer (some ⟨cb, 0, none⟩)] 60 := by rw [← hW1, ← hT]; (unfold Blk; simp (disch := first | omega | (simp; done) | (simp; omega)) only [hp_drew, hp_drewN, hp_alloc, hp_other, hp_same, hp_new, upd_cells, Option.map_some])
  have b1 : Blk W1 (T + 1) #[.int .i64 6, .string ⟨nm.toArray⟩, .bool fl, .int .u64 (bi : Int), .slice a0 np c0, .slice a1 nk c1, .slice a2 nb c2, .slice a3 na c3] 40 := by rw [← hW1, ← hT]; (unfold Blk; simp (disch := first | omega | (simp; done) | (simp; omega)) only [hp_drew, hp_drewN, hp_alloc, hp_other, hp_same, hp_new, upd_cells, Option.map_some])
  have b2 : Blk W1 (T + 2) #[.map (some mi)] 62 := by rw [← hW1, ← hT]; (unfold Blk; simp (disch := first | omega | (simp; done) | (simp; omega)) only [hp_drew, hp_drewN, hp_alloc, hp_other, hp_same, hp_new, upd_cells, Option.map_some])
  have b3 : Blk W1 (T + 3) #[.slice none 0 0] 33 := by rw [← hW1, ← hT]; (unfold Blk; simp (disch := first | omega | (simp; done) | (simp; omega)) only [hp_drew, hp_drewN, hp_alloc, hp_other, hp_same, hp_new, upd_cells, Option.map_some])
  have z1 : W1.heap.size = T + 4 := by rw [← hW1, ← hT]; simp
  have t2 := b1.cell 6
  have t3 := b1.lt
  simp at t2
  have H1 := Lib.hid (And.intro f1 (And.intro b0 (And.intro b1 (And.intro b2 (And.intro b3 (And.intro z1 hT))))))
  clear hW1 f1 b0 b1 b2 b3 z1 hT
  go_wp2_with fail
  go_loopg [13] nb (fun g iv wr => ∃ (k : Nat) (v : Value), g = nb - k ∧ k ≤ nb ∧ iv = .int .i64 (k : Int) ∧ Hid (Blk wr (T + 3) #[v] 33 ∧ wr.ownsRow (T + 4) 9 1 v k (strC (nmB (bs.take k))) ∧ Fr (fun b => b = T + 3) W1 wr))
  case atStart => exact ⟨0, _, rfl, by omega, rfl, Lib.hid ⟨H1.out.2.2.2.2.1, by simpa [nmB, strC] using World.ownsRow_nil _ _ _ _, Fr.refl _ _⟩⟩
  case round =>
    obtain ⟨kk, v, rfl, hk, rfl, HS⟩ := hrel
    have j0 : (0 : Int) ≤ (kk : Int) := by omega
    have hsz := HS.out.2.2.size
    have hz1' := H1.out.2.2.2.2.2.1
    by_cases hlt : kk < nb
    · have hkL : kk < bs.length := by rw [H0.out.2.2.2.2.2.2.2.2.1]; exact hlt
      have wkk : IntKind.i64.wrap ((kk : Int) + 1) = (kk : Int) + 1 := by rw [IntKind.wrap_i64]; omega
      have j1 : (kk : Int) < (nb : Int) := by omega
      have fww : Fr Nil w wr := H1.out.1.trans HS.out.2.2 (fun b hb q => by have q' : b = T + 3 := q; have := H1.out.2.2.2.2.2.2; omega)
      obtain ⟨b, off, rfl, _, hc⟩ := (H0.out.2.2.2.2.1.frN fww).at hlt
      have hBA := H0.out.2.2.2.2.2.1 kk hkL
      obtain ⟨bn, pa, pn, pc, k', nm', fl', bi', b0, m0, d0, b1, m1, d1, b2, m2, d2, b3, m3, d3, ec⟩ := hBA.formB
      rw [ec] at hc hBA
      obtain ⟨_, _, hbn⟩ := hBA.parts
      obtain ⟨x, hx⟩ : ∃ x, bs[kk].name = x := ⟨_, rfl⟩
      rw [hx] at hbn
      subst hbn
      have HXX := Lib.hid (And.intro hx fww)
      have p0 := hc 0 _ rfl
      have p1 := hc 1 _ rfl
      have p2 := hc 2 _ rfl
      have p3 := hc 3 _ rfl
      have p4 := hc 4 _ rfl
      have p5 := hc 5 _ rfl
      have p6 := hc 6 _ rfl
      have p7 := hc 7 _ rfl
      have p8 := hc 8 _ rfl
      have p9 := hc 9 _ rfl
      simp only [Nat.add_zero] at p0
      have hbl : b < wr.heap.size := World.block_lt_of_cell? _ _ p0
      have u3 := HS.out.1.cell 0
      simp at u3
      have u3l := HS.out.1.lt
      have u3f := HS.out.1.free
      have hown := HS.out.2.1.lt
      have hT4 : T + 4 ≤ wr.heap.size := by omega
      clear hc ec hx hBA t2 t3 hsz hz1' fww
      go_wp2_with (first
        | (at_builtin; refine wpList_push rfl (.tmp 17) (.tmp 20) 33 rfl (T + 4) 9 i0 (.string ⟨#[]⟩) 1 16 Tryd.underlying33 hi hz0 hz1 hz2 rfl (by decide) v kk (strC (nmB (bs.take kk))) rfl (owns_fr HS.out.2.1 (by (repeat (first | (with_reducible exact Fr.refl _ _) | (with_reducible assumption) | (with_reducible exact Fr.of_nil (by assumption)) | (with_reducible refine Fr.drew ?_) | (with_reducible refine Fr.drewN ?_ _) | (with_reducible refine Fr.alloc ?_ _) | (with_reducible refine Fr.set ?_ _ _ (by first | (intros; omega) | (simp; done) | (simp; omega))) | (with_reducible refine Fr.via ?_ (by assumption)) | (with_reducible refine Fr.comp ?_ (by assumption)))))) [.string ⟨x.toArray⟩] (by rw [World.size_alloc]; rfl) rfl (by simp [Value.oneCell']) (by unfold maxLen; omega) (by omega) (Nat.le_trans hT4 (Fr.size (S := Nil) (by (repeat (first | (with_reducible exact Fr.refl _ _) | (with_reducible assumption) | (with_reducible exact Fr.of_nil (by assumption)) | (with_reducible refine Fr.drew ?_) | (with_reducible refine Fr.drewN ?_ _) | (with_reducible refine Fr.alloc ?_ _) | (with_reducible refine Fr.set ?_ _ _ (by first | (intros; omega) | (simp; done) | (simp; omega))) | (with_reducible refine Fr.via ?_ (by assumption)) | (with_reducible refine Fr.comp ?_ (by assumption))))))) ?_; intro v' w3 hown3 f3 hk3; obtain ⟨xa, xc, rfl⟩ := owns_shape hown3; have k9 : Fr (fun k => v.ownBlock = some k) wr w3 := Fr.trans (w1 := _) (Fr.of_nil (by (repeat (first | (with_reducible exact Fr.refl _ _) | (with_reducible assumption) | (with_reducible exact Fr.of_nil (by assumption)) | (with_reducible refine Fr.drew ?_) | (with_reducible refine Fr.drewN ?_ _) | (with_reducible refine Fr.alloc ?_ _) | (with_reducible refine Fr.set ?_ _ _ (by first | (intros; omega) | (simp; done) | (simp; omega))) | (with_reducible refine Fr.via ?_ (by assumption)) | (with_reducible refine Fr.comp ?_ (by assumption)))))) f3 (fun _ _ q => q); have s9 := k9.blk HS.out.1 (fun q => by have := (hown _ q).1; omega); have s91 := s9.cell 0; simp at s91; have s9l := s9.lt; have s9f := s9.free; have HO3 := Lib.hid (And.intro hown3 (And.intro k9 (And.intro s9 hk3))); clear hown3 f3 hk3 k9 s9)
        | fail)
      go_roundg (nb - (kk + 1))
      case rel => exact ⟨kk + 1, _, rfl, by omega, by simp, Lib.hid ⟨HO3.out.2.2.1.put rfl, by rw [nmB_take hkL, strC_snoc, HXX.out.1]; exact owns_frS HO3.out.1 (Fr.set (S := fun b => b = T + 3) (Fr.refl _ _) ⟨T + 3, 0, none⟩ _ (fun _ => rfl)) (fun q e z => by
          have z' : q = T + 3 := z
          rcases HO3.out.2.2.2 q e with y | y
          · have := (hown q y).1; omega
          · have y' : wr.heap.size + 1 ≤ q := by simpa using y
            omega),
        (HS.out.2.2.trans HO3.out.2.1 (fun q hq z => by have := (hown q z).1; have := H1.out.2.2.2.2.2.1; omega)).set _ _ (fun _ => rfl)⟩⟩
      case measure => omega
    · have j1 : ¬ (kk : Int) < (nb : Int) := by omega
      obtain rfl : nb = kk := by omega
      have hown := HS.out.2.1
      rw [List.take_of_length_le (by rw [H0.out.2.2.2.2.2.2.2.2.1]; exact Nat.le_refl _)] at hown
      have hlen : (nmB bs).length = nb := by simp [nmB, H0.out.2.2.2.2.2.2.2.2.1]
      have hownl : wr.ownsRow (T + 4) 9 1 v (nmB bs).length (strC (nmB bs)) := by rw [hlen]; exact hown
      have hlt' := hown.lt
      have hrs : RowS (fun _ => False) wr v (nmB bs) := RowS.of_own hownl (fun q hq => hq.elim)
      obtain ⟨va, vc, rfl⟩ := owns_shape hown
      have fwr : Fr Nil w wr := H1.out.1.trans HS.out.2.2 (fun b hb q => by have q' : b = T + 3 := q; have := H1.out.2.2.2.2.2.2; omega)
      have c2 := HS.out.2.2.blk H1.out.2.2.2.1 (fun q => by have q' : T + 2 = T + 3 := q; omega)
      have u2 := c2.cell 0
      have u3 := HS.out.1.cell 0
      simp at u2 u3
      have u2l := c2.lt
      have u3l := HS.out.1.lt
      have HW := Lib.hid (with_any (H0.out.2.2.2.1.frN fwr) hrs (okB_nm H0.out.2.2.2.2.2.2.1) (by rw [hlen]; have := H0.out.2.2.2.2.2.2.2.1; have := H0.out.2.2.2.2.2.2.2.2.1; omega))
      have HO := Lib.hid (And.intro hownl (And.intro hlt' (And.intro fwr (And.intro c2 hlen))))
      clear hown hownl hlt' hrs fwr c2 hlen t2 t3 hsz hz1'
      go_wp2_with fail
      refine HW.out.mono ?_
      rintro e w5 ⟨mo, rfl, hmo, f5⟩
      have c5 := f5.blk HO.out.2.2.2.1 (fun q => q)
      have y2 := c5.cell 0
      simp at y2
      have y2l := c5.lt
      have y2f := c5.free
      have H5 := Lib.hid (And.intro hmo (And.intro f5 c5))
      clear hmo f5 c5 HW
      go_upto_region 8 with fail
      obtain ⟨W6, hW6⟩ : ∃ W6, w5.setCell ⟨T + 2, 0, none⟩ (.map (some mo)) = W6 := ⟨_, rfl⟩
      rw [hW6]
      have f6 : Fr (fun b => b = T + 2) wr W6 := by rw [← hW6]; exact (Fr.of_nil H5.out.2.1).set _ _ (fun _ => rfl)
      have f65 : Fr (fun b => b = T + 2) w5 W6 := by rw [← hW6]; exact (Fr.refl _ _).set _ _ (fun _ => rfl)
      have fw6 : Fr Nil w W6 := HO.out.2.2.1.trans f6 (fun b hb q => by have q' : b = T + 2 := q; have := H1.out.2.2.2.2.2.2; omega)
      have B0 : Blk W6 T #[.pointer (some ⟨cb, 0, none⟩)] 60 := f6.blk (HS.out.2.2.blk H1.out.2.1 (fun q => by have q' : T = T + 3 := q; omega)) (fun q => by have q' : T = T + 2 := q; omega)
      have B1 : Blk W6 (T + 1) #[.int .i64 6, .string ⟨nm.toArray⟩, .bool fl, .int .u64 (bi : Int), .slice a0 np c0, .slice a1 nk c1, .slice a2 nb c2, .slice a3 na c3] 40 := f6.blk (HS.out.2.2.blk H1.out.2.2.1 (fun q => by have q' : T + 1 = T + 3 := q; omega)) (fun q => by have q' : T + 1 = T + 2 := q; omega)
      have B2 : Blk W6 (T + 2) #[.map (some mo)] 62 := by rw [← hW6]; exact H5.out.2.2.put rfl
      have B3 : Blk W6 (T + 3) #[.slice va nb vc] 33 := f6.blk HS.out.1 (fun q => by have q' : T + 3 = T + 2 := q; omega)
      have hm6 : SMap W6 mo (i ++ nmB bs).length (cnt (i ++ nmB bs)) := H5.out.1.fr f65 (H5.out.1.ne H5.out.2.2)
      have hrs6 : RowS (fun _ => False) W6 (.slice va nb vc) (nmB bs) := RowS.of_own (owns_frS HO.out.1 f6 (fun q e z => by have z' : q = T + 2 := z; have := (HO.out.2.1 q e).1; omega)) (fun q hq => hq.elim)
      have hil : (i ++ nmB bs).length = i.length + nb := by rw [List.length_append, HO.out.2.2.2.2]
      have A1 : FnAt W6 (.func (.func 124) #[] #[.pointer (some ⟨T + 3, 0, none⟩)]) (twF (nmB bs) noF) :=
        ⟨_, _, rfl, enters_of Tryd.func124 (by kernel_rfl) rfl, fun w' f => c_let1_any (f.blk B3 (fun q => q)) (hrs6.frN f) (okB_nm H0.out.2.2.2.2.2.2.1) (by rw [HO.out.2.2.2.2]; omega)⟩
      have LB : ∀ W, Fr Nil W6 W → Calls Tryd.prog 31 #[.slice a2 nb c2, .func (.func 125) #[] #[.pointer (some ⟨T, 0, none⟩), .pointer (some ⟨T + 2, 0, none⟩)]] W fun r w' => ∃ v, r = .returned v ∧ FnAt w' v (firstF (bs.map (fun b => bodyF cons b.params b.body (i ++ nmB bs)))) ∧ Fr Nil W w' := fun W g =>
        allB_any (w := W) (cs := bc) (ss := bs.map (fun b => bodyF cons b.params b.body (i ++ nmB bs))) (enters_of Tryd.func125 (by kernel_rfl) rfl) H0.out.2.2.2.2.1.lenX (fun j hj => (H0.out.2.2.2.2.2.1 j (by rw [H0.out.2.2.2.2.2.2.2.2.1]; exact hj)).formB) (H0.out.2.2.2.2.1.frN (fw6.comp g)) (by rw [List.length_map, H0.out.2.2.2.2.2.2.2.2.1]) (fun j hj w' f => by
          have hj' : j < bs.length := by simpa using hj
          rw [List.getElem_map]
          have hmm := List.getElem_mem hj'
          have hob := okB_mem H0.out.2.2.2.2.2.2.1 hmm
          exact slet2_any (H0.out.2.1 _ hmm) (H0.out.2.2.1.fr ((fw6.comp g).comp f)) (hm6.frN (g.comp f)) ((g.comp f).blk B0 (fun q => q)) ((g.comp f).blk B2 (fun q => q)) ((H0.out.2.2.2.2.2.1 j hj').frN ((fw6.comp g).comp f)) hob.2.1 (by have := wnB_mem hmm; have := H0.out.2.2.2.2.2.2.2.1; have := H0.out.2.2.2.2.2.2.2.2.1; rw [hil]; omega))
      have LK : ∀ W, Fr Nil W6 W → Calls Tryd.prog 103 #[.pointer (some ⟨cb, 0, none⟩), .agg #[.int .i64 6, .string ⟨nm.toArray⟩, .bool fl, .int .u64 (bi : Int), .slice a0 np c0, .slice a1 nk c1, .slice a2 nb c2, .slice a3 na c3], .map (some mo)] W fun r w' => ∃ v, r = .returned v ∧ FnAt w' v (scK cons ks (i ++ nmB bs) noF) ∧ Fr Nil W w' := fun W g =>
        skids_any H0.out.1 (H0.out.2.2.1.fr (fw6.comp g)) (hm6.frN g) (HE0.out.frN (fw6.comp g)) (by have := H0.out.2.2.2.2.2.2.2.1; have := H0.out.2.2.2.2.2.2.2.2.1; rw [hil]; omega)
      have HK : Hid (∀ w', Fr Nil W6 w' → w'.cell? ⟨T, 0, none⟩ = some (.pointer (some ⟨cb, 0, none⟩)) ∧ w'.cell? ⟨T + 1, 0, none⟩ = some (.int .i64 6) ∧ w'.cell? ⟨T + 1, 1, none⟩ = some (.string ⟨nm.toArray⟩) ∧ w'.cell? ⟨T + 1, 2, none⟩ = some (.bool fl) ∧ w'.cell? ⟨T + 1, 3, none⟩ = some (.int .u64 (bi : Int)) ∧ w'.cell? ⟨T + 1, 4, none⟩ = some (.slice a0 np c0) ∧ w'.cell? ⟨T + 1, 5, none⟩ = some (.slice a1 nk c1) ∧ w'.cell? ⟨T + 1, 6, none⟩ = some (.slice a2 nb c2) ∧ w'.cell? ⟨T + 1, 7, none⟩ = some (.slice a3 na c3) ∧ w'.cell? ⟨T + 2, 0, none⟩ = some (.map (some mo))) := Lib.hid (fun w' f => by
        have z0 := (f.blk B0 (fun q => q)).cell 0
        have z1 := (f.blk B1 (fun q => q)).cell
        have z2 := (f.blk B2 (fun q => q)).cell 0
        simp at z0 z2
        exact ⟨z0, z1 0, z1 1, z1 2, z1 3, z1 4, z1 5, z1 6, z1 7, z2⟩)
      have HA1 := Lib.hid A1
      have HLB := Lib.hid LB
      have HLK := Lib.hid LK
      have HF := Lib.hid fw6
      have l0 := B0.lt
      have l1 := B1.lt
      have l2 := B2.lt
      have l3 := B3.lt
      clear hW6 f6 f65 fw6 B0 B1 B2 B3 hm6 hrs6 hil A1 LB LK y2 y2l y2f u2 u3 u2l u3l
      go_region_held3 (fun w' => w'.cell? ⟨T, 0, none⟩ = some (.pointer (some ⟨cb, 0, none⟩)) ∧ w'.cell? ⟨T + 1, 0, none⟩ = some (.int .i64 6) ∧ w'.cell? ⟨T + 1, 1, none⟩ = some (.string ⟨nm.toArray⟩) ∧ w'.cell? ⟨T + 1, 2, none⟩ = some (.bool fl) ∧ w'.cell? ⟨T + 1, 3, none⟩ = some (.int .u64 (bi : Int)) ∧ w'.cell? ⟨T + 1, 4, none⟩ = some (.slice a0 np c0) ∧ w'.cell? ⟨T + 1, 5, none⟩ = some (.slice a1 nk c1) ∧ w'.cell? ⟨T + 1, 6, none⟩ = some (.slice a2 nb c2) ∧ w'.cell? ⟨T + 1, 7, none⟩ = some (.slice a3 na c3) ∧ w'.cell? ⟨T + 2, 0, none⟩ = some (.map (some mo))) (with_reducible refine HK.out _ ?_; first | assumption | (repeat (first | (with_reducible exact Fr.refl _ _) | (with_reducible assumption) | (with_reducible exact Fr.of_nil (by assumption)) | (with_reducible refine Fr.drew ?_) | (with_reducible refine Fr.drewN ?_ _) | (with_reducible refine Fr.alloc ?_ _) | (with_reducible refine Fr.set ?_ _ _ (by first | (intros; omega) | (simp; done) | (simp; omega))) | (with_reducible refine Fr.via ?_ (by assumption)) | (with_reducible refine Fr.comp ?_ (by assumption))))) (first
        | (go_at_call 25; go_loud (refine (first_any (n := 3) (vs := [.func (.func 124) #[] #[.pointer (some ⟨T + 3, 0, none⟩)], .func (.func gf1) #[] p1, .func (.func gf2) #[] p2]) (ss := [_, _, _]) (t := 70) (by (unfold Blk; simp (disch := first | omega | (simp; done) | (simp; omega)) only [hp_drew, hp_drewN, hp_alloc, hp_other, hp_same, hp_new, upd_cells, Option.map_some])) rfl rfl (fns3 (HA1.out.fr (by (repeat (first | (with_reducible exact Fr.refl _ _) | (with_reducible assumption) | (with_reducible exact Fr.of_nil (by assumption)) | (with_reducible refine Fr.drew ?_) | (with_reducible refine Fr.drewN ?_ _) | (with_reducible refine Fr.alloc ?_ _) | (with_reducible refine Fr.set ?_ _ _ (by first | (intros; omega) | (simp; done) | (simp; omega))) | (with_reducible refine Fr.via ?_ (by assumption)) | (with_reducible refine Fr.comp ?_ (by assumption)))))) (hv1.fr (by (repeat (first | (with_reducible exact Fr.refl _ _) | (with_reducible assumption) | (with_reducible exact Fr.of_nil (by assumption)) | (with_reducible refine Fr.drew ?_) | (with_reducible refine Fr.drewN ?_ _) | (with_reducible refine Fr.alloc ?_ _) | (with_reducible refine Fr.set ?_ _ _ (by first | (intros; omega) | (simp; done) | (simp; omega))) | (with_reducible refine Fr.via ?_ (by assumption)) | (with_reducible refine Fr.comp ?_ (by assumption)))))) (hv2.fr (by (repeat (first | (with_reducible exact Fr.refl _ _) | (with_reducible assumption) | (with_reducible exact Fr.of_nil (by assumption)) | (with_reducible refine Fr.drew ?_) | (with_reducible refine Fr.drewN ?_ _) | (with_reducible refine Fr.alloc ?_ _) | (with_reducible refine Fr.set ?_ _ _ (by first | (intros; omega) | (simp; done) | (simp; omega))) | (with_reducible refine Fr.via ?_ (by assumption)) | (with_reducible refine Fr.comp ?_ (by assumption))))))) (by decide)).mono ?_); rintro r wz ⟨v, rfl, he, fz⟩; have gz : Fr Nil W6 wz := Fr.comp (S := Nil) (by first | assumption | (repeat (first | (with_reducible exact Fr.refl _ _) | (with_reducible assumption) | (with_reducible exact Fr.of_nil (by assumption)) | (with_reducible refine Fr.drew ?_) | (with_reducible refine Fr.drewN ?_ _) | (with_reducible refine Fr.alloc ?_ _) | (with_reducible refine Fr.set ?_ _ _ (by first | (intros; omega) | (simp; done) | (simp; omega))) | (with_reducible refine Fr.via ?_ (by assumption)) | (with_reducible refine Fr.comp ?_ (by assumption))))) fz; clear fz)
        | (go_at_call 31; refine (HLB.out _ (by first | assumption | (repeat (first | (with_reducible exact Fr.refl _ _) | (with_reducible assumption) | (with_reducible exact Fr.of_nil (by assumption)) | (with_reducible refine Fr.drew ?_) | (with_reducible refine Fr.drewN ?_ _) | (with_reducible refine Fr.alloc ?_ _) | (with_reducible refine Fr.set ?_ _ _ (by first | (intros; omega) | (simp; done) | (simp; omega))) | (with_reducible refine Fr.via ?_ (by assumption)) | (with_reducible refine Fr.comp ?_ (by assumption)))))).mono ?_; rintro r wa ⟨_, rfl, ⟨gf1, p1, rfl, hE1, hA1⟩, fa⟩; have hv1 := FnAt.mk hE1 hA1; clear hE1 hA1; have ga : Fr Nil W6 wa := Fr.comp (S := Nil) (by first | assumption | (repeat (first | (with_reducible exact Fr.refl _ _) | (with_reducible assumption) | (with_reducible exact Fr.of_nil (by assumption)) | (with_reducible refine Fr.drew ?_) | (with_reducible refine Fr.drewN ?_ _) | (with_reducible refine Fr.alloc ?_ _) | (with_reducible refine Fr.set ?_ _ _ (by first | (intros; omega) | (simp; done) | (simp; omega))) | (with_reducible refine Fr.via ?_ (by assumption)) | (with_reducible refine Fr.comp ?_ (by assumption))))) fa)
        | (go_at_call 103; refine (HLK.out _ (by first | assumption | (repeat (first | (with_reducible exact Fr.refl _ _) | (with_reducible assumption) | (with_reducible exact Fr.of_nil (by assumption)) | (with_reducible refine Fr.drew ?_) | (with_reducible refine Fr.drewN ?_ _) | (with_reducible refine Fr.alloc ?_ _) | (with_reducible refine Fr.set ?_ _ _ (by first | (intros; omega) | (simp; done) | (simp; omega))) | (with_reducible refine Fr.via ?_ (by assumption)) | (with_reducible refine Fr.comp ?_ (by assumption)))))).mono ?_; rintro r wb ⟨_, rfl, ⟨gf2, p2, rfl, hE2, hA2⟩, fb⟩; have hv2 := FnAt.mk hE2 hA2; clear hE2 hA2; have gb : Fr Nil W6 wb := Fr.comp (S := Nil) (by first | assumption | (repeat (first | (with_reducible exact Fr.refl _ _) | (with_reducible assumption) | (with_reducible exact Fr.of_nil (by assumption)) | (with_reducible refine Fr.drew ?_) | (with_reducible refine Fr.drewN ?_ _) | (with_reducible refine Fr.alloc ?_ _) | (with_reducible refine Fr.set ?_ _ _ (by first | (intros; omega) | (simp; done) | (simp; omega))) | (with_reducible refine Fr.via ?_ (by assumption)) | (with_reducible refine Fr.comp ?_ (by assumption))))) fb))
      all_goals
        have HG := Lib.hid (And.intro he (HF.out.comp gz))
        clear he gz
        go_wp2
        go_ret
        exact ⟨v, rfl, by rw [scB_first]; exact HG.out.1, HG.out.2⟩
end
end Go.Proofs.YtpjlibbdngnnnaaDoor

