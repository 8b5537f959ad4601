/-
  The document's show (layer 9): let and case. No conditions.
  The document's show (layer 9): every expression; every bind. No conditions.
-/
import Derived.Test.YtpjlibbdngnnnaaDoorRsB
namespace Go.Proofs.YtpjlibbdngnnnaaDoor
set_option linter.unusedSimpArgs false
set_option linter.unusedVariables false
open Go.RowKit

/-- An alternative, given the text of its body. -/
theorem ralt_any {w : World} {c : List Value} {a : TA} (h : AAt (fun _ => False) w c a) (hE : RsOk a.body) (hs : a.bits < 18446744073709551616 ∧ svE a.body) (hz : zE a.body + 64 + a.name.length + lenS a.names ≤ 50000000) :
    Calls Tryd.prog 51 #[.agg c.toArray] w fun r w' => r = .returned (.string ⟨(swA1 prF a).toArray⟩) ∧ Fr Nil w w' := by
  obtain ⟨k, n, fl, bi, ns, e⟩ := a
  by_cases k1 : k = 1
  · subst k1
    exact ralt_num h hE hs.2 hs.1 hz
  · exact ralt_con h hE hs.2 k1 hz
theorem rbind_of {w : World} {c : List Value} {b : TB} (h : BAt (fun _ => False) w c b) (hE : RsOk b.body) (hs : svE b.body) (hz : zE b.body + 32 + b.name.length + lenS b.params ≤ 50000000) :
    Calls Tryd.prog 50 #[.agg c.toArray] w fun r w' => r = .returned (.string ⟨(swB1 prF b).toArray⟩) ∧ Fr Nil w w' := by
  obtain ⟨n, ps, e⟩ := b
  exact rbind_any h hE hs hz
theorem joinR_take {l : List (List UInt8)} {j : Nat} (h : j < l.length) : joinR (l.take (j + 1)) = if j = 0 then l[j] else joinR (l.take j) ++ [59, 32] ++ l[j] := by
  rw [List.take_succ_eq_append_getElem h, joinR_snoc]
  by_cases q : j = 0
  · subst q; simp
  · rw [if_neg q, if_neg]
    intro z
    have := congrArg List.length z
    rw [List.length_take, List.length_nil] at this
    omega
set_option maxRecDepth 100000 in
set_option maxHeartbeats 4000000 in
theorem rx_let {nm : List UInt8} {fl : Bool} {bi : Nat} {ps : List (List UInt8)} {ks : List TE} {bs : List TB} {al : List TA} (hK : ∀ e ∈ ks, RsOk e) (hL : ∀ x ∈ bs, RsOk x.body) : RsOk (.mk 6 nm fl bi ps ks bs al) := by
  intro w cs h hs hz
  obtain ⟨a0, c0, a1, c1, a2, c2, a3, c3, kc, bc, ac, rfl, hp, hk, hk2, hb, hb2, ha, ha2⟩ := h.opened
  obtain ⟨nk, hnk⟩ : ∃ nk, ks.length = nk := ⟨_, rfl⟩
  obtain ⟨nb, hnb⟩ : ∃ nb, bs.length = nb := ⟨_, rfl⟩
  obtain ⟨na, hna⟩ : ∃ na, al.length = na := ⟨_, rfl⟩
  obtain ⟨np, hnp⟩ : ∃ np, ps.length = np := ⟨_, rfl⟩
  rw [hnk] at hk
  rw [hnb] at hb
  rw [hna] at ha
  have hp' : RowS (fun _ => False) w (.slice a0 np c0) ps := by rw [← hnp]; exact hp
  have hk9 := hk.lenX
  have hb9 := hb.lenX
  have ha9 := ha.lenX
  rw [hnk, hnb, hna, hnp]
  clear h hp
  unfold svE at hs
  obtain ⟨hsf, hsk, hsb, hsa⟩ := hs
  have hz' := hz
  unfold zE at hz'
  obtain ⟨R, hR⟩ : ∃ t, swE prF (.mk 6 nm fl bi ps ks bs al) = t := ⟨_, rfl⟩
  rw [hR]
  have hRl := swE_le hz
  rw [hR] at hRl
  rw [swE] at hR
  obtain ⟨W1, hW1⟩ : ∃ W1, w.alloc (.cells #[.int .i64 6, .string ⟨nm.toArray⟩, .bool fl, .int .u64 (bi : Int), .slice a0 np c0, .slice a1 nk c1, .slice a2 nb c2, .slice a3 na c3] 40) = W1 := ⟨_, rfl⟩
  obtain ⟨T, hT⟩ : ∃ T, w.heap.size = T := ⟨_, rfl⟩
  have f1 : Fr Nil w W1 := by rw [← hW1]; (repeat (first | (with_reducible exact Fr.refl _ _) | (with_reducible assumption) | (with_reducible exact Fr.of_nil (by assumption)) | (with_reducible refine Fr.drew ?_) | (with_reducible refine Fr.drewN ?_ _) | (with_reducible refine Fr.alloc ?_ _) | (with_reducible refine Fr.set ?_ _ _ (by first | (intros; omega) | (simp; done) | (simp; omega))) | (with_reducible refine Fr.via ?_ (by assumption)) | (with_reducible refine Fr.comp ?_ (by assumption))))
  have b1 : Blk W1 T #[.int .i64 6, .string ⟨nm.toArray⟩, .bool fl, .int .u64 (bi : Int), .slice a0 np c0, .slice a1 nk c1, .slice a2 nb c2, .slice a3 na c3] 40 := by rw [← hW1, ← hT]; exact Blk.new _ _ _
  have HK2 : Hid (∀ w', Fr Nil W1 w' → w'.cell? ⟨T, 0, none⟩ = some (.int .i64 6) ∧ w'.cell? ⟨T, 1, none⟩ = some (.string ⟨nm.toArray⟩) ∧ w'.cell? ⟨T, 2, none⟩ = some (.bool fl) ∧ w'.cell? ⟨T, 3, none⟩ = some (.int .u64 (bi : Int)) ∧ w'.cell? ⟨T, 4, none⟩ = some (.slice a0 np c0) ∧ w'.cell? ⟨T, 5, none⟩ = some (.slice a1 nk c1) ∧ w'.cell? ⟨T, 6, none⟩ = some (.slice a2 nb c2) ∧ w'.cell? ⟨T, 7, none⟩ = some (.slice a3 na c3)) := Lib.hid (fun w' f => by
    have b := f.blk b1 (fun q => q)
    have z0 := b.cell 0
    have z1 := b.cell 1
    have z2 := b.cell 2
    have z3 := b.cell 3
    have z4 := b.cell 4
    have z5 := b.cell 5
    have z6 := b.cell 6
    have z7 := b.cell 7
    simp at z0 z1 z2 z3 z4 z5 z6 z7
    exact ⟨z0, z1, z2, z3, z4, z5, z6, z7⟩)
  obtain ⟨z0, z1, z2, z3, z4, z5, z6, z7⟩ := HK2.out W1 (Fr.refl _ _)
  have zl := b1.lt
  have HF1 := Lib.hid f1
  clear b1
  rw [if_neg (by decide), if_neg (by decide), if_neg (by decide), if_neg (by decide), if_neg (by decide), if_pos rfl] at hR
  obtain ⟨e0, rfl⟩ : ∃ e0, ks = [e0] := by
    have h1 := hsf.2.2.2.2.2.1 (by omega)
    match ks, h1 with
    | [e], _ => exact ⟨e, rfl⟩
  have hnk1 : nk = 1 := by rw [← hnk]; rfl
  subst hnk1
  have hEA := hk2 0 (by simp)
  obtain ⟨kA, nA, fA, bA, a0A, n0A, c0A, a1A, n1A, c1A, a2A, n2A, c2A, a3A, n3A, c3A, ecA⟩ := hEA.formE
  obtain ⟨b, off, e', _, hcA⟩ := hk.at (i := 0) (by omega)
  subst e'
  rw [ecA] at hcA hEA
  have hCA : Hid (∀ w', Fr Nil W1 w' → w'.cell? ⟨b, off, none⟩ = some (.int .i64 kA) ∧ w'.cell? ⟨b, off + 1, none⟩ = some (.string nA) ∧ w'.cell? ⟨b, off + 2, none⟩ = some (.bool fA) ∧ w'.cell? ⟨b, off + 3, none⟩ = some (.int .u64 bA) ∧ w'.cell? ⟨b, off + 4, none⟩ = some (.slice a0A n0A c0A) ∧ w'.cell? ⟨b, off + 5, none⟩ = some (.slice a1A n1A c1A) ∧ w'.cell? ⟨b, off + 6, none⟩ = some (.slice a2A n2A c2A) ∧ w'.cell? ⟨b, off + 7, none⟩ = some (.slice a3A n3A c3A)) := Lib.hid (fun w' f => ⟨by have h := (f1.comp f).cell (hcA 0 _ rfl) (fun q => q); simpa using h, by have h := (f1.comp f).cell (hcA 1 _ rfl) (fun q => q); simpa using h, by have h := (f1.comp f).cell (hcA 2 _ rfl) (fun q => q); simpa using h, by have h := (f1.comp f).cell (hcA 3 _ rfl) (fun q => q); simpa using h, by have h := (f1.comp f).cell (hcA 4 _ rfl) (fun q => q); simpa using h, by have h := (f1.comp f).cell (hcA 5 _ rfl) (fun q => q); simpa using h, by have h := (f1.comp f).cell (hcA 6 _ rfl) (fun q => q); simpa using h, by have h := (f1.comp f).cell (hcA 7 _ rfl) (fun q => q); simpa using h⟩)
  have hzA : zE e0 ≤ 50000000 := by have := zK_mem (e := e0) (ks := [e0]) (by simp); omega
  have hex : ∀ w', Fr Nil W1 w' → Calls Tryd.prog 18 #[.agg #[.int .i64 kA, .string nA, .bool fA, .int .u64 bA, .slice a0A n0A c0A, .slice a1A n1A c1A, .slice a2A n2A c2A, .slice a3A n3A c3A]] w' fun r w2 => r = .returned (.string ⟨(swE prF e0).toArray⟩) ∧ Fr Nil w' w2 := fun w' f => hK e0 (by simp) w' _ (hEA.frN (f1.comp f)) hsk.1 hzA
  have hlL : (swB prF bs).length = nb := by rw [swB_map, List.length_map]; exact hnb
  have hzL := swB_len prF prF_len bs
  have hat : ∀ j (h : j < bs.length) (h' : j < (swB prF bs).length), ∀ w', Fr Nil W1 w' → Calls Tryd.prog 50 #[.agg (bc j).toArray] w' fun r w2 => r = .returned (.string ⟨((swB prF bs)[j]).toArray⟩) ∧ Fr Nil w' w2 := fun j h h' w' f => by
    have hm : bs[j] ∈ bs := List.getElem_mem h
    have e : (swB prF bs)[j] = swB1 prF bs[j] := by simp [swB_map]
    rw [e]
    exact rbind_of ((hb2 j h).frN (f1.comp f)) (hL _ hm) (svB_mem hsb hm) (by have := zB_mem hm; omega)
  have hform : ∀ j (h : j < bs.length), FormB (bc j) := fun j h => (hb2 j h).formB
  rw [swX, let_doc] at hR
  obtain ⟨t, ht⟩ : ∃ t, swE prF e0 = t := ⟨_, rfl⟩
  obtain ⟨u, hu⟩ : ∃ t, joinR (swB prF bs) = t := ⟨_, rfl⟩
  rw [ht] at hR hex
  rw [hu] at hR
  have htl : t.length ≤ 50000000 := by rw [← ht]; exact swE_le hzA
  have hul : u.length ≤ 50000000 := by
    have := joinR_le (swB prF bs)
    rw [hu] at this
    omega
  have hzL2 : lenS (swB prF bs) ≤ 50000000 := by omega
  have hrow := hb.frN f1
  have HW := Lib.hid (And.intro hex (And.intro hat (And.intro hform (And.intro hlL (And.intro hzL2 (And.intro hrow (And.intro hnb (And.intro hu (And.intro hR (And.intro htl hul))))))))))
  clear hex hat hform hlL hzL hzL2 hrow hu hR htl hul ht hRl hK hL hzA hcA hEA ecA
  clear hp' hk hk2 hb hb2 ha ha2 hnb hna hnp hsf hsk hsb hsa hz hz' f1
  go_enter Tryd.func18, Tryd.ntmps18
  go_wp2_with fail
  try rw [hT]
  try rw [hW1]
  clear hW1 hT z0 z1 z2 z3 z4 z5 z6 z7 zl
  go_loopg [5, 6] nb (fun g sv iv wr => ∃ j : Nat, g = nb - j ∧ j ≤ nb ∧ sv = .string ⟨(joinR ((swB prF bs).take j)).toArray⟩ ∧ iv = .int .i64 (j : Int) ∧ Hid (Fr Nil W1 wr))
  case atStart => exact ⟨0, rfl, by omega, by rw [List.take_zero]; rfl, rfl, Lib.hid (Fr.refl _ _)⟩
  case round =>
    obtain ⟨j, rfl, hjn, rfl, rfl, HQ⟩ := hrel
    obtain ⟨Vr, hVr⟩ : ∃ V, V = wr := ⟨_, rfl⟩
    subst hVr
    obtain ⟨z0, z1, z2, z3, z4, z5, z6, z7⟩ := HK2.out Vr HQ.out
    have zl := World.block_lt_of_cell? _ _ z0
    have j0 : (0 : Int) ≤ (j : Int) := by omega
    by_cases hlt : j < nb
    · have hjl : j < bs.length := by rw [HW.out.2.2.2.2.2.2.1]; exact hlt
      have hjs : j < (swB prF bs).length := by rw [HW.out.2.2.2.1]; exact hlt
      have wk : IntKind.i64.wrap ((j : Int) + 1) = (j : Int) + 1 := by rw [IntKind.wrap_i64]; omega
      have j1 : (j : Int) < (nb : Int) := by omega
      obtain ⟨b2, off2, e2, _, hc⟩ := (HW.out.2.2.2.2.2.1.frN HQ.out).at hlt
      obtain ⟨xbn, xpa, xpn, xpc, xk, xnm, xfl, xbi, xa0, xn0, xc0, xa1, xn1, xc1, xa2, xn2, xc2, xa3, xn3, xc3, ec2⟩ := HW.out.2.2.1 j hjl
      have hat := HW.out.2.1 j hjl hjs
      rw [ec2] at hc hat
      subst e2
      have x0 := hc 0 _ rfl
      have x1 := hc 1 _ rfl
      have x2 := hc 2 _ rfl
      have x3 := hc 3 _ rfl
      have x4 := hc 4 _ rfl
      have x5 := hc 5 _ rfl
      have x6 := hc 6 _ rfl
      have x7 := hc 7 _ rfl
      have x8 := hc 8 _ rfl
      have x9 := hc 9 _ rfl
      simp only [Nat.add_zero] at x0
      have hw := joinR_take hjs
      have h1 := lenS_at hjs
      have h2 := joinR_le ((swB prF bs).take j)
      have h3 := HW.out.2.2.2.2.1
      obtain ⟨x, hx⟩ : ∃ x, (swB prF bs)[j] = x := ⟨_, rfl⟩
      rw [hx] at hw h1 hat
      obtain ⟨S2, hS2⟩ : ∃ x, joinR ((swB prF bs).take (j + 1)) = x := ⟨_, rfl⟩
      rw [hS2] at hw
      have HS := Lib.hid hS2
      have HA := Lib.hid hat
      clear hS2 hat hx hc ec2
      by_cases q : j = 0
      · have e : joinR ((swB prF bs).take j) = [] := by rw [q, List.take_zero]; rfl
        rw [if_pos q] at hw
        rw [e]
        have sa1 : ∀ w, (Op.stringOp .add ⟨#[]⟩ ⟨x.toArray⟩).run Tryd.prog w = .ok (.string ⟨S2.toArray⟩) w := fun w => by rw [hw]; exact sadd [] x (by simp; omega) w
        have q1 : ¬ (0 : Int) < (j : Int) := by omega
        clear e hw h1 h2 h3 q
        go_wp2_with fail
        refine (HA.out _ (by first | exact HQ.out | exact Fr.comp (S := Nil) HQ.out (by (repeat (first | (with_reducible exact Fr.refl _ _) | (with_reducible assumption) | (with_reducible exact Fr.of_nil (by assumption)) | (with_reducible refine Fr.drew ?_) | (with_reducible refine Fr.drewN ?_ _) | (with_reducible refine Fr.alloc ?_ _) | (with_reducible refine Fr.set ?_ _ _ (by first | (intros; omega) | (simp; done) | (simp; omega))) | (with_reducible refine Fr.via ?_ (by assumption)) | (with_reducible refine Fr.comp ?_ (by assumption))))))).mono ?_
        rintro r w2 ⟨rfl, f2⟩
        have HF : Hid (Fr Nil W1 w2) := Lib.hid (HQ.out.comp (Fr.comp (S := Nil) (by (repeat (first | (with_reducible exact Fr.refl _ _) | (with_reducible assumption) | (with_reducible exact Fr.of_nil (by assumption)) | (with_reducible refine Fr.drew ?_) | (with_reducible refine Fr.drewN ?_ _) | (with_reducible refine Fr.alloc ?_ _) | (with_reducible refine Fr.set ?_ _ _ (by first | (intros; omega) | (simp; done) | (simp; omega))) | (with_reducible refine Fr.via ?_ (by assumption)) | (with_reducible refine Fr.comp ?_ (by assumption))))) f2))
        clear f2
        go_wp2
        go_roundg (nb - (j + 1))
        case rel => exact ⟨j + 1, rfl, by omega, by rw [HS.out], rfl, Lib.hid HF.out⟩
        case measure => omega
      · rw [if_neg q] at hw
        obtain ⟨S, hS⟩ : ∃ x, joinR ((swB prF bs).take j) = x := ⟨_, rfl⟩
        rw [hS] at hw h2 ⊢
        obtain ⟨S1, hS1⟩ : ∃ x, S ++ [59, 32] = x := ⟨_, rfl⟩
        rw [hS1] at hw
        have l1 : S1.length = S.length + 2 := by rw [← hS1]; simp
        have sa1 : ∀ w, (Op.stringOp .add ⟨S.toArray⟩ ⟨#[59, 32]⟩).run Tryd.prog w = .ok (.string ⟨S1.toArray⟩) w := fun w => by rw [← hS1]; exact sadd S [59, 32] (by simp; omega) w
        have sa2 : ∀ w, (Op.stringOp .add ⟨S1.toArray⟩ ⟨x.toArray⟩).run Tryd.prog w = .ok (.string ⟨S2.toArray⟩) w := fun w => by rw [hw]; exact sadd S1 x (by omega) w
        have q1 : (0 : Int) < (j : Int) := by omega
        clear hw h1 h2 h3 q hS hS1 l1
        go_wp2_with fail
        refine (HA.out _ (by first | exact HQ.out | exact Fr.comp (S := Nil) HQ.out (by (repeat (first | (with_reducible exact Fr.refl _ _) | (with_reducible assumption) | (with_reducible exact Fr.of_nil (by assumption)) | (with_reducible refine Fr.drew ?_) | (with_reducible refine Fr.drewN ?_ _) | (with_reducible refine Fr.alloc ?_ _) | (with_reducible refine Fr.set ?_ _ _ (by first | (intros; omega) | (simp; done) | (simp; omega))) | (with_reducible refine Fr.via ?_ (by assumption)) | (with_reducible refine Fr.comp ?_ (by assumption))))))).mono ?_
        rintro r w2 ⟨rfl, f2⟩
        have HF : Hid (Fr Nil W1 w2) := Lib.hid (HQ.out.comp (Fr.comp (S := Nil) (by (repeat (first | (with_reducible exact Fr.refl _ _) | (with_reducible assumption) | (with_reducible exact Fr.of_nil (by assumption)) | (with_reducible refine Fr.drew ?_) | (with_reducible refine Fr.drewN ?_ _) | (with_reducible refine Fr.alloc ?_ _) | (with_reducible refine Fr.set ?_ _ _ (by first | (intros; omega) | (simp; done) | (simp; omega))) | (with_reducible refine Fr.via ?_ (by assumption)) | (with_reducible refine Fr.comp ?_ (by assumption))))) f2))
        clear f2
        go_wp2
        go_roundg (nb - (j + 1))
        case rel => exact ⟨j + 1, rfl, by omega, by rw [HS.out], rfl, Lib.hid HF.out⟩
        case measure => omega
    · have j1 : ¬ (j : Int) < (nb : Int) := by omega
      have e : joinR ((swB prF bs).take j) = u := by rw [List.take_of_length_le (by rw [HW.out.2.2.2.1]; omega)]; exact HW.out.2.2.2.2.2.2.2.1
      rw [e]
      have hR := HW.out.2.2.2.2.2.2.2.2.1
      have htl := HW.out.2.2.2.2.2.2.2.2.2.1
      have hul := HW.out.2.2.2.2.2.2.2.2.2.2
      obtain ⟨S1, hS1⟩ : ∃ x : List UInt8, [108, 101, 116, 32] ++ u = x := ⟨_, rfl⟩
      rw [hS1] at hR
      have l1 : S1.length = ([108, 101, 116, 32] : List UInt8).length + (u : List UInt8).length := by rw [← hS1, List.length_append]
      try simp only [List.length_cons, List.length_nil] at l1
      have sa1 : ∀ w, (Op.stringOp .add ⟨#[108, 101, 116, 32]⟩ ⟨u.toArray⟩).run Tryd.prog w = .ok (.string ⟨S1.toArray⟩) w := fun w => by rw [← hS1]; exact sadd [108, 101, 116, 32] u (by (try simp only [List.length_cons, List.length_nil]); omega) w
      obtain ⟨S2, hS2⟩ : ∃ x : List UInt8, S1 ++ [32, 105, 110, 32] = x := ⟨_, rfl⟩
      rw [hS2] at hR
      have l2 : S2.length = (S1 : List UInt8).length + ([32, 105, 110, 32] : List UInt8).length := by rw [← hS2, List.length_append]
      try simp only [List.length_cons, List.length_nil] at l2
      have sa2 : ∀ w, (Op.stringOp .add ⟨S1.toArray⟩ ⟨#[32, 105, 110, 32]⟩).run Tryd.prog w = .ok (.string ⟨S2.toArray⟩) w := fun w => by rw [← hS2]; exact sadd S1 [32, 105, 110, 32] (by (try simp only [List.length_cons, List.length_nil]); omega) w
      have sa9 : ∀ w, (Op.stringOp .add ⟨S2.toArray⟩ ⟨t.toArray⟩).run Tryd.prog w = .ok (.string ⟨R.toArray⟩) w := fun w => by rw [← hR]; exact sadd S2 t (by (try simp only [List.length_cons, List.length_nil]); omega) w
      obtain ⟨y0, y1, y2, y3, y4, y5, y6, y7⟩ := hCA.out Vr HQ.out
      have yl := World.block_lt_of_cell? _ _ y0
      clear hR htl hul e hS1 l1 hS2 l2
      go_wp2_with fail
      refine (HW.out.1 _ (by first | exact HQ.out | exact Fr.comp (S := Nil) HQ.out (by (repeat (first | (with_reducible exact Fr.refl _ _) | (with_reducible assumption) | (with_reducible exact Fr.of_nil (by assumption)) | (with_reducible refine Fr.drew ?_) | (with_reducible refine Fr.drewN ?_ _) | (with_reducible refine Fr.alloc ?_ _) | (with_reducible refine Fr.set ?_ _ _ (by first | (intros; omega) | (simp; done) | (simp; omega))) | (with_reducible refine Fr.via ?_ (by assumption)) | (with_reducible refine Fr.comp ?_ (by assumption))))))).mono ?_
      rintro r w2 ⟨rfl, f2⟩
      have HF : Hid (Fr Nil W1 w2) := Lib.hid (HQ.out.comp (Fr.comp (S := Nil) (by (repeat (first | (with_reducible exact Fr.refl _ _) | (with_reducible assumption) | (with_reducible exact Fr.of_nil (by assumption)) | (with_reducible refine Fr.drew ?_) | (with_reducible refine Fr.drewN ?_ _) | (with_reducible refine Fr.alloc ?_ _) | (with_reducible refine Fr.set ?_ _ _ (by first | (intros; omega) | (simp; done) | (simp; omega))) | (with_reducible refine Fr.via ?_ (by assumption)) | (with_reducible refine Fr.comp ?_ (by assumption))))) f2))
      clear f2
      go_wp2
      go_ret
      exact ⟨rfl, HF1.out.comp HF.out⟩
set_option maxRecDepth 100000 in
set_option maxHeartbeats 4000000 in
theorem rx_case {nm : List UInt8} {fl : Bool} {bi : Nat} {ps : List (List UInt8)} {ks : List TE} {bs : List TB} {al : List TA} (hK : ∀ e ∈ ks, RsOk e) (hL : ∀ x ∈ al, RsOk x.body) : RsOk (.mk 7 nm fl bi ps ks bs al) := by
  intro w cs h hs hz
  obtain ⟨a0, c0, a1, c1, a2, c2, a3, c3, kc, bc, ac, rfl, hp, hk, hk2, hb, hb2, ha, ha2⟩ := h.opened
  obtain ⟨nk, hnk⟩ : ∃ nk, ks.length = nk := ⟨_, rfl⟩
  obtain ⟨nb, hnb⟩ : ∃ nb, bs.length = nb := ⟨_, rfl⟩
  obtain ⟨na, hna⟩ : ∃ na, al.length = na := ⟨_, rfl⟩
  obtain ⟨np, hnp⟩ : ∃ np, ps.length = np := ⟨_, rfl⟩
  rw [hnk] at hk
  rw [hnb] at hb
  rw [hna] at ha
  have hp' : RowS (fun _ => False) w (.slice a0 np c0) ps := by rw [← hnp]; exact hp
  have hk9 := hk.lenX
  have hb9 := hb.lenX
  have ha9 := ha.lenX
  rw [hnk, hnb, hna, hnp]
  clear h hp
  unfold svE at hs
  obtain ⟨hsf, hsk, hsb, hsa⟩ := hs
  have hz' := hz
  unfold zE at hz'
  obtain ⟨R, hR⟩ : ∃ t, swE prF (.mk 7 nm fl bi ps ks bs al) = t := ⟨_, rfl⟩
  rw [hR]
  have hRl := swE_le hz
  rw [hR] at hRl
  rw [swE] at hR
  obtain ⟨W1, hW1⟩ : ∃ W1, w.alloc (.cells #[.int .i64 7, .string ⟨nm.toArray⟩, .bool fl, .int .u64 (bi : Int), .slice a0 np c0, .slice a1 nk c1, .slice a2 nb c2, .slice a3 na c3] 40) = W1 := ⟨_, rfl⟩
  obtain ⟨T, hT⟩ : ∃ T, w.heap.size = T := ⟨_, rfl⟩
  have f1 : Fr Nil w W1 := by rw [← hW1]; (repeat (first | (with_reducible exact Fr.refl _ _) | (with_reducible assumption) | (with_reducible exact Fr.of_nil (by assumption)) | (with_reducible refine Fr.drew ?_) | (with_reducible refine Fr.drewN ?_ _) | (with_reducible refine Fr.alloc ?_ _) | (with_reducible refine Fr.set ?_ _ _ (by first | (intros; omega) | (simp; done) | (simp; omega))) | (with_reducible refine Fr.via ?_ (by assumption)) | (with_reducible refine Fr.comp ?_ (by assumption))))
  have b1 : Blk W1 T #[.int .i64 7, .string ⟨nm.toArray⟩, .bool fl, .int .u64 (bi : Int), .slice a0 np c0, .slice a1 nk c1, .slice a2 nb c2, .slice a3 na c3] 40 := by rw [← hW1, ← hT]; exact Blk.new _ _ _
  have HK2 : Hid (∀ w', Fr Nil W1 w' → w'.cell? ⟨T, 0, none⟩ = some (.int .i64 7) ∧ w'.cell? ⟨T, 1, none⟩ = some (.string ⟨nm.toArray⟩) ∧ w'.cell? ⟨T, 2, none⟩ = some (.bool fl) ∧ w'.cell? ⟨T, 3, none⟩ = some (.int .u64 (bi : Int)) ∧ w'.cell? ⟨T, 4, none⟩ = some (.slice a0 np c0) ∧ w'.cell? ⟨T, 5, none⟩ = some (.slice a1 nk c1) ∧ w'.cell? ⟨T, 6, none⟩ = some (.slice a2 nb c2) ∧ w'.cell? ⟨T, 7, none⟩ = some (.slice a3 na c3)) := Lib.hid (fun w' f => by
    have b := f.blk b1 (fun q => q)
    have z0 := b.cell 0
    have z1 := b.cell 1
    have z2 := b.cell 2
    have z3 := b.cell 3
    have z4 := b.cell 4
    have z5 := b.cell 5
    have z6 := b.cell 6
    have z7 := b.cell 7
    simp at z0 z1 z2 z3 z4 z5 z6 z7
    exact ⟨z0, z1, z2, z3, z4, z5, z6, z7⟩)
  obtain ⟨z0, z1, z2, z3, z4, z5, z6, z7⟩ := HK2.out W1 (Fr.refl _ _)
  have zl := b1.lt
  have HF1 := Lib.hid f1
  clear b1
  rw [if_neg (by decide), if_neg (by decide), if_neg (by decide), if_neg (by decide), if_neg (by decide), if_neg (by decide), if_pos rfl] at hR
  obtain ⟨e0, rfl⟩ : ∃ e0, ks = [e0] := by
    have h1 := hsf.2.2.2.2.2.1 (by omega)
    match ks, h1 with
    | [e], _ => exact ⟨e, rfl⟩
  have hnk1 : nk = 1 := by rw [← hnk]; rfl
  subst hnk1
  have hEA := hk2 0 (by simp)
  obtain ⟨kA, nA, fA, bA, a0A, n0A, c0A, a1A, n1A, c1A, a2A, n2A, c2A, a3A, n3A, c3A, ecA⟩ := hEA.formE
  obtain ⟨b, off, e', _, hcA⟩ := hk.at (i := 0) (by omega)
  subst e'
  rw [ecA] at hcA hEA
  have hCA : Hid (∀ w', Fr Nil W1 w' → w'.cell? ⟨b, off, none⟩ = some (.int .i64 kA) ∧ w'.cell? ⟨b, off + 1, none⟩ = some (.string nA) ∧ w'.cell? ⟨b, off + 2, none⟩ = some (.bool fA) ∧ w'.cell? ⟨b, off + 3, none⟩ = some (.int .u64 bA) ∧ w'.cell? ⟨b, off + 4, none⟩ = some (.slice a0A n0A c0A) ∧ w'.cell? ⟨b, off + 5, none⟩ = some (.slice a1A n1A c1A) ∧ w'.cell? ⟨b, off + 6, none⟩ = some (.slice a2A n2A c2A) ∧ w'.cell? ⟨b, off + 7, none⟩ = some (.slice a3A n3A c3A)) := Lib.hid (fun w' f => ⟨by have h := (f1.comp f).cell (hcA 0 _ rfl) (fun q => q); simpa using h, by have h := (f1.comp f).cell (hcA 1 _ rfl) (fun q => q); simpa using h, by have h := (f1.comp f).cell (hcA 2 _ rfl) (fun q => q); simpa using h, by have h := (f1.comp f).cell (hcA 3 _ rfl) (fun q => q); simpa using h, by have h := (f1.comp f).cell (hcA 4 _ rfl) (fun q => q); simpa using h, by have h := (f1.comp f).cell (hcA 5 _ rfl) (fun q => q); simpa using h, by have h := (f1.comp f).cell (hcA 6 _ rfl) (fun q => q); simpa using h, by have h := (f1.comp f).cell (hcA 7 _ rfl) (fun q => q); simpa using h⟩)
  have hzA : zE e0 ≤ 50000000 := by have := zK_mem (e := e0) (ks := [e0]) (by simp); omega
  have hex : ∀ w', Fr Nil W1 w' → Calls Tryd.prog 18 #[.agg #[.int .i64 kA, .string nA, .bool fA, .int .u64 bA, .slice a0A n0A c0A, .slice a1A n1A c1A, .slice a2A n2A c2A, .slice a3A n3A c3A]] w' fun r w2 => r = .returned (.string ⟨(swE prF e0).toArray⟩) ∧ Fr Nil w' w2 := fun w' f => hK e0 (by simp) w' _ (hEA.frN (f1.comp f)) hsk.1 hzA
  have hlL : (swA prF al).length = na := by rw [swA_map, List.length_map]; exact hna
  have hzL := swA_len prF prF_len al
  have hat : ∀ j (h : j < al.length) (h' : j < (swA prF al).length), ∀ w', Fr Nil W1 w' → Calls Tryd.prog 51 #[.agg (ac j).toArray] w' fun r w2 => r = .returned (.string ⟨((swA prF al)[j]).toArray⟩) ∧ Fr Nil w' w2 := fun j h h' w' f => by
    have hm : al[j] ∈ al := List.getElem_mem h
    have e : (swA prF al)[j] = swA1 prF al[j] := by simp [swA_map]
    rw [e]
    exact ralt_any ((ha2 j h).frN (f1.comp f)) (hL _ hm) (svA_mem hsa hm) (by have := zA_mem hm; omega)
  have hform : ∀ j (h : j < al.length), FormA (ac j) := fun j h => (ha2 j h).formA
  rw [swX, case_doc] at hR
  obtain ⟨t, ht⟩ : ∃ t, swE prF e0 = t := ⟨_, rfl⟩
  obtain ⟨u, hu⟩ : ∃ t, joinR (swA prF al) = t := ⟨_, rfl⟩
  rw [ht] at hR hex
  rw [hu] at hR
  have htl : t.length ≤ 50000000 := by rw [← ht]; exact swE_le hzA
  have hul : u.length ≤ 50000000 := by
    have := joinR_le (swA prF al)
    rw [hu] at this
    omega
  have hzL2 : lenS (swA prF al) ≤ 50000000 := by omega
  have hrow := ha.frN f1
  have HW := Lib.hid (And.intro hex (And.intro hat (And.intro hform (And.intro hlL (And.intro hzL2 (And.intro hrow (And.intro hna (And.intro hu (And.intro hR (And.intro htl hul))))))))))
  clear hex hat hform hlL hzL hzL2 hrow hu hR htl hul ht hRl hK hL hzA hcA hEA ecA
  clear hp' hk hk2 hb hb2 ha ha2 hnb hna hnp hsf hsk hsb hsa hz hz' f1
  go_enter Tryd.func18, Tryd.ntmps18
  go_wp2_with fail
  try rw [hT]
  try rw [hW1]
  clear hW1 hT z0 z1 z2 z3 z4 z5 z6 z7 zl
  go_loopg [5, 7] na (fun g sv iv wr => ∃ j : Nat, g = na - j ∧ j ≤ na ∧ sv = .string ⟨(joinR ((swA prF al).take j)).toArray⟩ ∧ iv = .int .i64 (j : Int) ∧ Hid (Fr Nil W1 wr))
  case atStart => exact ⟨0, rfl, by omega, by rw [List.take_zero]; rfl, rfl, Lib.hid (Fr.refl _ _)⟩
  case round =>
    obtain ⟨j, rfl, hjn, rfl, rfl, HQ⟩ := hrel
    obtain ⟨Vr, hVr⟩ : ∃ V, V = wr := ⟨_, rfl⟩
    subst hVr
    obtain ⟨z0, z1, z2, z3, z4, z5, z6, z7⟩ := HK2.out Vr HQ.out
    have zl := World.block_lt_of_cell? _ _ z0
    have j0 : (0 : Int) ≤ (j : Int) := by omega
    by_cases hlt : j < na
    · have hjl : j < al.length := by rw [HW.out.2.2.2.2.2.2.1]; exact hlt
      have hjs : j < (swA prF al).length := by rw [HW.out.2.2.2.1]; exact hlt
      have wk : IntKind.i64.wrap ((j : Int) + 1) = (j : Int) + 1 := by rw [IntKind.wrap_i64]; omega
      have j1 : (j : Int) < (na : Int) := by omega
      obtain ⟨b2, off2, e2, _, hc⟩ := (HW.out.2.2.2.2.2.1.frN HQ.out).at hlt
      obtain ⟨xtk, xtn, xtf, xtb, xpa, xpn, xpc, xk, xnm, xfl, xbi, xa0, xn0, xc0, xa1, xn1, xc1, xa2, xn2, xc2, xa3, xn3, xc3, ec2⟩ := HW.out.2.2.1 j hjl
      have hat := HW.out.2.1 j hjl hjs
      rw [ec2] at hc hat
      subst e2
      have x0 := hc 0 _ rfl
      have x1 := hc 1 _ rfl
      have x2 := hc 2 _ rfl
      have x3 := hc 3 _ rfl
      have x4 := hc 4 _ rfl
      have x5 := hc 5 _ rfl
      have x6 := hc 6 _ rfl
      have x7 := hc 7 _ rfl
      have x8 := hc 8 _ rfl
      have x9 := hc 9 _ rfl
      have x10 := hc 10 _ rfl
      have x11 := hc 11 _ rfl
      have x12 := hc 12 _ rfl
      simp only [Nat.add_zero] at x0
      have hw := joinR_take hjs
      have h1 := lenS_at hjs
      have h2 := joinR_le ((swA prF al).take j)
      have h3 := HW.out.2.2.2.2.1
      obtain ⟨x, hx⟩ : ∃ x, (swA prF al)[j] = x := ⟨_, rfl⟩
      rw [hx] at hw h1 hat
      obtain ⟨S2, hS2⟩ : ∃ x, joinR ((swA prF al).take (j + 1)) = x := ⟨_, rfl⟩
      rw [hS2] at hw
      have HS := Lib.hid hS2
      have HA := Lib.hid hat
      clear hS2 hat hx hc ec2
      by_cases q : j = 0
      · have e : joinR ((swA prF al).take j) = [] := by rw [q, List.take_zero]; rfl
        rw [if_pos q] at hw
        rw [e]
        have sa1 : ∀ w, (Op.stringOp .add ⟨#[]⟩ ⟨x.toArray⟩).run Tryd.prog w = .ok (.string ⟨S2.toArray⟩) w := fun w => by rw [hw]; exact sadd [] x (by simp; omega) w
        have q1 : ¬ (0 : Int) < (j : Int) := by omega
        clear e hw h1 h2 h3 q
        go_wp2_with fail
        refine (HA.out _ (by first | exact HQ.out | exact Fr.comp (S := Nil) HQ.out (by (repeat (first | (with_reducible exact Fr.refl _ _) | (with_reducible assumption) | (with_reducible exact Fr.of_nil (by assumption)) | (with_reducible refine Fr.drew ?_) | (with_reducible refine Fr.drewN ?_ _) | (with_reducible refine Fr.alloc ?_ _) | (with_reducible refine Fr.set ?_ _ _ (by first | (intros; omega) | (simp; done) | (simp; omega))) | (with_reducible refine Fr.via ?_ (by assumption)) | (with_reducible refine Fr.comp ?_ (by assumption))))))).mono ?_
        rintro r w2 ⟨rfl, f2⟩
        have HF : Hid (Fr Nil W1 w2) := Lib.hid (HQ.out.comp (Fr.comp (S := Nil) (by (repeat (first | (with_reducible exact Fr.refl _ _) | (with_reducible assumption) | (with_reducible exact Fr.of_nil (by assumption)) | (with_reducible refine Fr.drew ?_) | (with_reducible refine Fr.drewN ?_ _) | (with_reducible refine Fr.alloc ?_ _) | (with_reducible refine Fr.set ?_ _ _ (by first | (intros; omega) | (simp; done) | (simp; omega))) | (with_reducible refine Fr.via ?_ (by assumption)) | (with_reducible refine Fr.comp ?_ (by assumption))))) f2))
        clear f2
        go_wp2
        go_roundg (na - (j + 1))
        case rel => exact ⟨j + 1, rfl, by omega, by rw [HS.out], rfl, Lib.hid HF.out⟩
        case measure => omega
      · rw [if_neg q] at hw
        obtain ⟨S, hS⟩ : ∃ x, joinR ((swA prF al).take j) = x := ⟨_, rfl⟩
        rw [hS] at hw h2 ⊢
        obtain ⟨S1, hS1⟩ : ∃ x, S ++ [59, 32] = x := ⟨_, rfl⟩
        rw [hS1] at hw
        have l1 : S1.length = S.length + 2 := by rw [← hS1]; simp
        have sa1 : ∀ w, (Op.stringOp .add ⟨S.toArray⟩ ⟨#[59, 32]⟩).run Tryd.prog w = .ok (.string ⟨S1.toArray⟩) w := fun w => by rw [← hS1]; exact sadd S [59, 32] (by simp; omega) w
        have sa2 : ∀ w, (Op.stringOp .add ⟨S1.toArray⟩ ⟨x.toArray⟩).run Tryd.prog w = .ok (.string ⟨S2.toArray⟩) w := fun w => by rw [hw]; exact sadd S1 x (by omega) w
        have q1 : (0 : Int) < (j : Int) := by omega
        clear hw h1 h2 h3 q hS hS1 l1
        go_wp2_with fail
        refine (HA.out _ (by first | exact HQ.out | exact Fr.comp (S := Nil) HQ.out (by (repeat (first | (with_reducible exact Fr.refl _ _) | (with_reducible assumption) | (with_reducible exact Fr.of_nil (by assumption)) | (with_reducible refine Fr.drew ?_) | (with_reducible refine Fr.drewN ?_ _) | (with_reducible refine Fr.alloc ?_ _) | (with_reducible refine Fr.set ?_ _ _ (by first | (intros; omega) | (simp; done) | (simp; omega))) | (with_reducible refine Fr.via ?_ (by assumption)) | (with_reducible refine Fr.comp ?_ (by assumption))))))).mono ?_
        rintro r w2 ⟨rfl, f2⟩
        have HF : Hid (Fr Nil W1 w2) := Lib.hid (HQ.out.comp (Fr.comp (S := Nil) (by (repeat (first | (with_reducible exact Fr.refl _ _) | (with_reducible assumption) | (with_reducible exact Fr.of_nil (by assumption)) | (with_reducible refine Fr.drew ?_) | (with_reducible refine Fr.drewN ?_ _) | (with_reducible refine Fr.alloc ?_ _) | (with_reducible refine Fr.set ?_ _ _ (by first | (intros; omega) | (simp; done) | (simp; omega))) | (with_reducible refine Fr.via ?_ (by assumption)) | (with_reducible refine Fr.comp ?_ (by assumption))))) f2))
        clear f2
        go_wp2
        go_roundg (na - (j + 1))
        case rel => exact ⟨j + 1, rfl, by omega, by rw [HS.out], rfl, Lib.hid HF.out⟩
        case measure => omega
    · have j1 : ¬ (j : Int) < (na : Int) := by omega
      have e : joinR ((swA prF al).take j) = u := by rw [List.take_of_length_le (by rw [HW.out.2.2.2.1]; omega)]; exact HW.out.2.2.2.2.2.2.2.1
      rw [e]
      have hR := HW.out.2.2.2.2.2.2.2.2.1
      have htl := HW.out.2.2.2.2.2.2.2.2.2.1
      have hul := HW.out.2.2.2.2.2.2.2.2.2.2
      obtain ⟨S1, hS1⟩ : ∃ x : List UInt8, [99, 97, 115, 101, 32] ++ t = x := ⟨_, rfl⟩
      rw [hS1] at hR
      have l1 : S1.length = ([99, 97, 115, 101, 32] : List UInt8).length + (t : List UInt8).length := by rw [← hS1, List.length_append]
      try simp only [List.length_cons, List.length_nil] at l1
      have sa1 : ∀ w, (Op.stringOp .add ⟨#[99, 97, 115, 101, 32]⟩ ⟨t.toArray⟩).run Tryd.prog w = .ok (.string ⟨S1.toArray⟩) w := fun w => by rw [← hS1]; exact sadd [99, 97, 115, 101, 32] t (by (try simp only [List.length_cons, List.length_nil]); omega) w
      obtain ⟨S2, hS2⟩ : ∃ x : List UInt8, S1 ++ [32, 111, 102, 32, 123] = x := ⟨_, rfl⟩
      rw [hS2] at hR
      have l2 : S2.length = (S1 : List UInt8).length + ([32, 111, 102, 32, 123] : List UInt8).length := by rw [← hS2, List.length_append]
      try simp only [List.length_cons, List.length_nil] at l2
      have sa2 : ∀ w, (Op.stringOp .add ⟨S1.toArray⟩ ⟨#[32, 111, 102, 32, 123]⟩).run Tryd.prog w = .ok (.string ⟨S2.toArray⟩) w := fun w => by rw [← hS2]; exact sadd S1 [32, 111, 102, 32, 123] (by (try simp only [List.length_cons, List.length_nil]); omega) w
      obtain ⟨S3, hS3⟩ : ∃ x : List UInt8, S2 ++ u = x := ⟨_, rfl⟩
      rw [hS3] at hR
      have l3 : S3.length = (S2 : List UInt8).length + (u : List UInt8).length := by rw [← hS3, List.length_append]
      try simp only [List.length_cons, List.length_nil] at l3
      have sa3 : ∀ w, (Op.stringOp .add ⟨S2.toArray⟩ ⟨u.toArray⟩).run Tryd.prog w = .ok (.string ⟨S3.toArray⟩) w := fun w => by rw [← hS3]; exact sadd S2 u (by (try simp only [List.length_cons, List.length_nil]); omega) w
      have sa9 : ∀ w, (Op.stringOp .add ⟨S3.toArray⟩ ⟨#[125]⟩).run Tryd.prog w = .ok (.string ⟨R.toArray⟩) w := fun w => by rw [← hR]; exact sadd S3 [125] (by (try simp only [List.length_cons, List.length_nil]); omega) w
      obtain ⟨y0, y1, y2, y3, y4, y5, y6, y7⟩ := hCA.out Vr HQ.out
      have yl := World.block_lt_of_cell? _ _ y0
      clear hR htl hul e hS1 l1 hS2 l2 hS3 l3
      go_wp2_with fail
      refine (HW.out.1 _ (by first | exact HQ.out | exact Fr.comp (S := Nil) HQ.out (by (repeat (first | (with_reducible exact Fr.refl _ _) | (with_reducible assumption) | (with_reducible exact Fr.of_nil (by assumption)) | (with_reducible refine Fr.drew ?_) | (with_reducible refine Fr.drewN ?_ _) | (with_reducible refine Fr.alloc ?_ _) | (with_reducible refine Fr.set ?_ _ _ (by first | (intros; omega) | (simp; done) | (simp; omega))) | (with_reducible refine Fr.via ?_ (by assumption)) | (with_reducible refine Fr.comp ?_ (by assumption))))))).mono ?_
      rintro r w2 ⟨rfl, f2⟩
      have HF : Hid (Fr Nil W1 w2) := Lib.hid (HQ.out.comp (Fr.comp (S := Nil) (by (repeat (first | (with_reducible exact Fr.refl _ _) | (with_reducible assumption) | (with_reducible exact Fr.of_nil (by assumption)) | (with_reducible refine Fr.drew ?_) | (with_reducible refine Fr.drewN ?_ _) | (with_reducible refine Fr.alloc ?_ _) | (with_reducible refine Fr.set ?_ _ _ (by first | (intros; omega) | (simp; done) | (simp; omega))) | (with_reducible refine Fr.via ?_ (by assumption)) | (with_reducible refine Fr.comp ?_ (by assumption))))) f2))
      clear f2
      go_wp2
      go_ret
      exact ⟨rfl, HF1.out.comp HF.out⟩
end Go.Proofs.YtpjlibbdngnnnaaDoor

namespace Go.Proofs.YtpjlibbdngnnnaaDoor
set_option linter.unusedSimpArgs false
set_option linter.unusedVariables false
open Go.RowKit

theorem in_szK {e : TE} : ∀ {ks : List TE}, e ∈ ks → szE e ≤ szK ks
  | x :: l, h => by
    have e1 : szK (x :: l) = szE x + szK l := rfl
    rcases List.mem_cons.1 h with q | q
    · subst q; omega
    · have := in_szK q; omega
theorem in_szB {b : TB} : ∀ {bs : List TB}, b ∈ bs → szE b.body ≤ szB bs
  | .mk n p e :: l, h => by
    have e1 : szB (.mk n p e :: l) = szE e + szB l := rfl
    rcases List.mem_cons.1 h with q | q
    · subst q; show szE e ≤ _; omega
    · have := in_szB q; omega
theorem in_szA {a : TA} : ∀ {al : List TA}, a ∈ al → szE a.body ≤ szA al
  | .mk k n f b p e :: l, h => by
    have e1 : szA (.mk k n f b p e :: l) = szE e + szA l := rfl
    rcases List.mem_cons.1 h with q | q
    · subst q; show szE e ≤ _; omega
    · have := in_szA q; omega
/-- The document shows every expression as it should. -/
theorem rs_all : ∀ (n : Nat) (e : TE), szE e ≤ n → RsOk e
  | 0, .mk k nm fl bi ps ks bs al, hn => by
    have e1 : szE (.mk k nm fl bi ps ks bs al) = 1 + szK ks + szB bs + szA al := rfl
    omega
  | n + 1, .mk k nm fl bi ps ks bs al, hn => by
    have e1 : szE (.mk k nm fl bi ps ks bs al) = 1 + szK ks + szB bs + szA al := rfl
    have hK : ∀ e ∈ ks, RsOk e := fun e he => rs_all n e (by have := in_szK he; omega)
    have hB : ∀ x ∈ bs, RsOk x.body := fun x hx => rs_all n x.body (by have := in_szB hx; omega)
    have hA : ∀ x ∈ al, RsOk x.body := fun x hx => rs_all n x.body (by have := in_szA hx; omega)
    intro w cs h hs hz
    have hs' := hs
    unfold svE at hs'
    have hsf := hs'.1
    have hk : k = 1 ∨ k = 2 ∨ k = 3 ∨ k = 4 ∨ k = 5 ∨ k = 6 ∨ k = 7 ∨ k = 8 := by have := hsf.2.1; have := hsf.2.2.1; omega
    rcases hk with rfl | rfl | rfl | rfl | rfl | rfl | rfl | rfl
    · exact rx_var w cs h hs hz
    · exact rx_con hK w cs h hs hz
    · exact rx_num w cs h hs hz
    · exact rx_app hK w cs h hs hz
    · cases nm with
      | nil => exact absurd rfl (hsf.2.2.2.2.1 rfl).1
      | cons ch rest =>
        by_cases hl : lowF (ch :: rest) = true
        · exact rx_low hl hK w cs h hs hz
        · exact rx_sign (by simpa using hl) hK w cs h hs hz
    · exact rx_let hK hB w cs h hs hz
    · exact rx_case hK hA w cs h hs hz
    · exact rx_lam hK w cs h hs hz
theorem rs_any (e : TE) : RsOk e := rs_all _ e (Nat.le_refl _)
end Go.Proofs.YtpjlibbdngnnnaaDoor
