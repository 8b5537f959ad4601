/-
  The program shows lets and choices. Conditions: the tables that Go's library reads.
-/
import Derived.Laws.EntriesVeiled
import Derived.Test.YtlnmicddobgppaaGreatDoorNnZA
import Derived.Test.YtlnmicddobgppaaGreatDoorNnA
namespace Go.Proofs.YtlnmicddobgppaaGreatDoor
set_option maxRecDepth 100000
set_option maxHeartbeats 4000000
set_option linter.unusedSimpArgs false
set_option linter.unusedVariables false
open Go.RowKit
theorem pbind_of {w : World} {c : List Value} {b : TB} (h : BAt (fun _ => False) w c b) (hE : PsOk b.body) (hs : svE b.body) (hz : zE b.body + 32 + b.name.length + lenS b.params ≤ 50000000) (hT : Tabs w) :
 Calls Tryz.prog 64 #[.agg c.toArray] w fun r w' => r = .returned (.string ⟨(swB1 prF b).toArray⟩) ∧ Fr Nil w w' := by
 obtain ⟨n, ps, e⟩ := b
 exact pbind_sh h hE hs hz hT
theorem palt_of {w : World} {c : List Value} {a : TA} (h : AAt (fun _ => False) w c a) (hE : PsOk a.body) (hs : a.bits < 18446744073709551616 ∧ svE a.body) (hz : zE a.body + 64 + a.name.length + lenS a.names ≤ 50000000) (hT : Tabs w) :
 Calls Tryz.prog 71 #[.agg c.toArray] w fun r w' => r = .returned (.string ⟨(swA1 prF a).toArray⟩) ∧ Fr Nil w w' := by
 obtain ⟨k, n, fl, bi, ns, e⟩ := a
 by_cases k1 : k = 1
 · subst k1
   exact palt_num h hE hs.1 hs.2 hz hT
 · exact palt_con h k1 hE hs.1 hs.2 hz hT
theorem prowsTB_any {w : World} {sa : Option Addr} {n cap : Nat} {bs : List TB} {cs : Nat → List Value} (hn : bs.length = n) (hrow : RowC (fun _ => False) w (.slice sa n cap) n 10 cs) (hform : ∀ j (h : j < bs.length), FormB (cs j))
 (hat : ∀ j (h : j < bs.length) w', Fr Nil w w' → Calls Tryz.prog 64 #[.agg (cs j).toArray] w' fun r w2 => r = .returned (.string ⟨(swB1 prF bs[j]).toArray⟩) ∧ Fr Nil w' w2) (hz : lenS (swB prF bs) ≤ 50000000) :
 Calls Tryz.prog 68 #[.slice sa n cap, .func (.func 64) #[] #[]] w fun r w' => r = .returned (.string ⟨(joinR (swB prF bs)).toArray⟩) ∧ Fr Nil w w' := by
 obtain ⟨i0, hi, hz0, hz1, hz2⟩ := info_parts infoS
 have hE' : Enters Tryz.prog 64 := enters_of Tryz.func64 (by kernel_rfl) rfl
 unfold Enters at hE'
 have hln : (swB prF bs).length = n := by rw [swB_map, List.length_map]; exact hn
 have hn9 : n ≤ 50000000 := by have := len_lenS (swB prF bs); omega
 obtain ⟨M, hM⟩ : ∃ M, swB prF bs = M := ⟨_, rfl⟩
 have hMj : ∀ j (h : j < bs.length) (h' : j < M.length), swB1 prF bs[j] = M[j] := fun j h h' => by
  subst hM
  simp [swB_map]
 rw [hM] at hln hz ⊢
 have H0 := Lib.hid (And.intro hrow (And.intro hform (And.intro hat (And.intro hn (And.intro hln (And.intro hMj hz))))))
 clear hrow hform hat hn hln hMj hM hz
 go_enter Tryz.func68, Tryz.ntmps68
 go_wp2_with fail
 go_loopg [5, 10] n (fun g v iv wr => ∃ j : Nat, g = n - j ∧ j ≤ n ∧ iv = .int .i64 (j : Int) ∧ Hid (wr.ownsRow w.heap.size 9 1 v j (strC (M.take j)) ∧ Fr Nil w wr))
 case atStart => exact ⟨0, rfl, by omega, rfl, Lib.hid ⟨World.ownsRow_nil _ _ _ _, Fr.refl _ _⟩⟩
 case round =>
  obtain ⟨j, rfl, hjn, rfl, HQ⟩ := hrel
  obtain ⟨Vr, hVr⟩ : ∃ V, V = wr := ⟨_, rfl⟩
  subst hVr
  obtain ⟨va, vc, rfl⟩ := owns_shape HQ.out.1
  have hsz := HQ.out.2.size
  have j0 : (0 : Int) ≤ (j : Int) := by omega
  by_cases hlt : j < n
  · have hjl : j < bs.length := by rw [H0.out.2.2.2.1]; exact hlt
    have hjs : j < M.length := by rw [H0.out.2.2.2.2.1]; exact hlt
    have wk : IntKind.i64.wrap ((j : Int) + 1) = (j : Int) + 1 := by rw [IntKind.wrap_i64]; omega
    have j1 : (j : Int) < (n : Int) := by omega
    obtain ⟨b, off, rfl, _, hc⟩ := (H0.out.1.frN HQ.out.2).at hlt
    obtain ⟨xbn, xpa, xpn, xpc, xk, xnm, xfl, xbi, xa0, xn0, xc0, xa1, xn1, xc1, xa2, xn2, xc2, xa3, xn3, xc3, ec⟩ := H0.out.2.1 j hjl
    have hat := fun w' (f : Fr Nil Vr w') => H0.out.2.2.1 j hjl w' (HQ.out.2.comp f)
    rw [H0.out.2.2.2.2.2.1 j hjl hjs] at hat
    rw [ec] at hc hat
    have x0 := hc 0 _ rfl
    have x1 := hc 1 _ rfl
    have x2 := hc 2 _ rfl
    have x3 := hc 3 _ rfl
    have x4 := hc 4 _ rfl
    have x5 := hc 5 _ rfl
    have x6 := hc 6 _ rfl
    have x7 := hc 7 _ rfl
    have x8 := hc 8 _ rfl
    have x9 := hc 9 _ rfl
    simp only [Nat.add_zero] at x0
    have xl := World.block_lt_of_cell? _ _ x0
    have hst : M.take (j + 1) = M.take j ++ [M[j]] := List.take_succ_eq_append_getElem hjs
    obtain ⟨x, hx⟩ : ∃ x, M[j] = x := ⟨_, rfl⟩
    rw [hx] at hst hat
    have HA := Lib.hid hat
    have HST := Lib.hid hst
    clear hat hst hx hc ec
    go_wp2_with fail
    go_at_fn 64
    refine (HA.out _ (by exact frA)).mono ?_
    rintro r w2 ⟨rfl, f2⟩
    have g2 : Fr Nil Vr w2 := Fr.comp (S := Nil) (by exact frA) f2
    have ho2 := owns_fr HQ.out.1 g2
    have H2 := Lib.hid (And.intro g2 ho2)
    have hs2 := g2.size
    clear f2 g2 ho2
    have hTw : w.heap.size ≤ w2.heap.size := by omega
    go_wp2_with (at_builtin; refine wpList_push rfl (.tmp 14) (.tmp 18) 45 rfl w.heap.size 9 i0 (.string ⟨#[]⟩) 1 16 Tryz.underlying45 hi hz0 hz1 hz2 rfl (by decide) (.slice va j vc) j (strC (M.take j)) rfl H2.out.2 [.string ⟨x.toArray⟩] rfl rfl (by simp [Value.oneCell']) (by unfold maxLen; omega) (by omega) hTw ?_; intro v' w9 hown9 k8 _; have HO := Lib.hid (And.intro hown9 k8); obtain ⟨ya, yc, rfl⟩ := owns_shape hown9; clear hown9 k8)
    have k9 : Fr Nil w w9 := (HQ.out.2.comp H2.out.1).trans HO.out.2 (fun q hq e => by have := (HQ.out.1.lt q e).1; omega)
    go_roundg (n - (j + 1))
    case rel => exact ⟨j + 1, rfl, by omega, rfl, Lib.hid ⟨by rw [HST.out, strC_snoc]; exact HO.out.1, k9⟩⟩
    case measure => omega
  · have j1 : ¬ (j : Int) < (n : Int) := by omega
    obtain rfl : n = j := by omega
    have ho := HQ.out.1
    rw [List.take_of_length_le (Nat.le_of_eq H0.out.2.2.2.2.1)] at ho
    have HJ := Lib.hid (sjoin_any (owns_rowS ho H0.out.2.2.2.2.1) H0.out.2.2.2.2.1 (by have := H0.out.2.2.2.2.2.2; omega))
    clear ho
    go_wp2_with fail
    refine HJ.out.mono ?_
    rintro r w2 ⟨rfl, f2⟩
    have HF : Hid (Fr Nil w w2) := Lib.hid (HQ.out.2.comp f2)
    clear f2
    go_wp2
    go_ret
    exact ⟨rfl, HF.out⟩
theorem prowsTA_any {w : World} {sa : Option Addr} {n cap : Nat} {al : List TA} {cs : Nat → List Value} (hn : al.length = n) (hrow : RowC (fun _ => False) w (.slice sa n cap) n 13 cs) (hform : ∀ j (h : j < al.length), FormA (cs j))
 (hat : ∀ j (h : j < al.length) w', Fr Nil w w' → Calls Tryz.prog 71 #[.agg (cs j).toArray] w' fun r w2 => r = .returned (.string ⟨(swA1 prF al[j]).toArray⟩) ∧ Fr Nil w' w2) (hz : lenS (swA prF al) ≤ 50000000) :
 Calls Tryz.prog 70 #[.slice sa n cap, .func (.func 71) #[] #[]] w fun r w' => r = .returned (.string ⟨(joinR (swA prF al)).toArray⟩) ∧ Fr Nil w w' := by
 obtain ⟨i0, hi, hz0, hz1, hz2⟩ := info_parts infoS
 have hE' : Enters Tryz.prog 71 := enters_of Tryz.func71 (by kernel_rfl) rfl
 unfold Enters at hE'
 have hln : (swA prF al).length = n := by rw [swA_map, List.length_map]; exact hn
 have hn9 : n ≤ 50000000 := by have := len_lenS (swA prF al); omega
 obtain ⟨M, hM⟩ : ∃ M, swA prF al = M := ⟨_, rfl⟩
 have hMj : ∀ j (h : j < al.length) (h' : j < M.length), swA1 prF al[j] = M[j] := fun j h h' => by
  subst hM
  simp [swA_map]
 rw [hM] at hln hz ⊢
 have H0 := Lib.hid (And.intro hrow (And.intro hform (And.intro hat (And.intro hn (And.intro hln (And.intro hMj hz))))))
 clear hrow hform hat hn hln hMj hM hz
 go_enter Tryz.func70, Tryz.ntmps70
 go_wp2_with fail
 go_loopg [5, 10] n (fun g v iv wr => ∃ j : Nat, g = n - j ∧ j ≤ n ∧ iv = .int .i64 (j : Int) ∧ Hid (wr.ownsRow w.heap.size 9 1 v j (strC (M.take j)) ∧ Fr Nil w wr))
 case atStart => exact ⟨0, rfl, by omega, rfl, Lib.hid ⟨World.ownsRow_nil _ _ _ _, Fr.refl _ _⟩⟩
 case round =>
  obtain ⟨j, rfl, hjn, rfl, HQ⟩ := hrel
  obtain ⟨Vr, hVr⟩ : ∃ V, V = wr := ⟨_, rfl⟩
  subst hVr
  obtain ⟨va, vc, rfl⟩ := owns_shape HQ.out.1
  have hsz := HQ.out.2.size
  have j0 : (0 : Int) ≤ (j : Int) := by omega
  by_cases hlt : j < n
  · have hjl : j < al.length := by rw [H0.out.2.2.2.1]; exact hlt
    have hjs : j < M.length := by rw [H0.out.2.2.2.2.1]; exact hlt
    have wk : IntKind.i64.wrap ((j : Int) + 1) = (j : Int) + 1 := by rw [IntKind.wrap_i64]; omega
    have j1 : (j : Int) < (n : Int) := by omega
    obtain ⟨b, off, rfl, _, hc⟩ := (H0.out.1.frN HQ.out.2).at hlt
    obtain ⟨xtk, xtn, xtf, xtb, xpa, xpn, xpc, xk, xnm, xfl, xbi, xa0, xn0, xc0, xa1, xn1, xc1, xa2, xn2, xc2, xa3, xn3, xc3, ec⟩ := H0.out.2.1 j hjl
    have hat := fun w' (f : Fr Nil Vr w') => H0.out.2.2.1 j hjl w' (HQ.out.2.comp f)
    rw [H0.out.2.2.2.2.2.1 j hjl hjs] at hat
    rw [ec] at hc hat
    have x0 := hc 0 _ rfl
    have x1 := hc 1 _ rfl
    have x2 := hc 2 _ rfl
    have x3 := hc 3 _ rfl
    have x4 := hc 4 _ rfl
    have x5 := hc 5 _ rfl
    have x6 := hc 6 _ rfl
    have x7 := hc 7 _ rfl
    have x8 := hc 8 _ rfl
    have x9 := hc 9 _ rfl
    have x10 := hc 10 _ rfl
    have x11 := hc 11 _ rfl
    have x12 := hc 12 _ rfl
    simp only [Nat.add_zero] at x0
    have xl := World.block_lt_of_cell? _ _ x0
    have hst : M.take (j + 1) = M.take j ++ [M[j]] := List.take_succ_eq_append_getElem hjs
    obtain ⟨x, hx⟩ : ∃ x, M[j] = x := ⟨_, rfl⟩
    rw [hx] at hst hat
    have HA := Lib.hid hat
    have HST := Lib.hid hst
    clear hat hst hx hc ec
    go_wp2_with fail
    go_at_fn 71
    refine (HA.out _ (by exact frA)).mono ?_
    rintro r w2 ⟨rfl, f2⟩
    have g2 : Fr Nil Vr w2 := Fr.comp (S := Nil) (by exact frA) f2
    have ho2 := owns_fr HQ.out.1 g2
    have H2 := Lib.hid (And.intro g2 ho2)
    have hs2 := g2.size
    clear f2 g2 ho2
    have hTw : w.heap.size ≤ w2.heap.size := by omega
    go_wp2_with (at_builtin; refine wpList_push rfl (.tmp 14) (.tmp 18) 45 rfl w.heap.size 9 i0 (.string ⟨#[]⟩) 1 16 Tryz.underlying45 hi hz0 hz1 hz2 rfl (by decide) (.slice va j vc) j (strC (M.take j)) rfl H2.out.2 [.string ⟨x.toArray⟩] rfl rfl (by simp [Value.oneCell']) (by unfold maxLen; omega) (by omega) hTw ?_; intro v' w9 hown9 k8 _; have HO := Lib.hid (And.intro hown9 k8); obtain ⟨ya, yc, rfl⟩ := owns_shape hown9; clear hown9 k8)
    have k9 : Fr Nil w w9 := (HQ.out.2.comp H2.out.1).trans HO.out.2 (fun q hq e => by have := (HQ.out.1.lt q e).1; omega)
    go_roundg (n - (j + 1))
    case rel => exact ⟨j + 1, rfl, by omega, rfl, Lib.hid ⟨by rw [HST.out, strC_snoc]; exact HO.out.1, k9⟩⟩
    case measure => omega
  · have j1 : ¬ (j : Int) < (n : Int) := by omega
    obtain rfl : n = j := by omega
    have ho := HQ.out.1
    rw [List.take_of_length_le (Nat.le_of_eq H0.out.2.2.2.2.1)] at ho
    have HJ := Lib.hid (sjoin_any (owns_rowS ho H0.out.2.2.2.2.1) H0.out.2.2.2.2.1 (by have := H0.out.2.2.2.2.2.2; omega))
    clear ho
    go_wp2_with fail
    refine HJ.out.mono ?_
    rintro r w2 ⟨rfl, f2⟩
    have HF : Hid (Fr Nil w w2) := Lib.hid (HQ.out.2.comp f2)
    clear f2
    go_wp2
    go_ret
    exact ⟨rfl, HF.out⟩
theorem pslet_any {w : World} {cs : List Value} {k : Nat} {nm : List UInt8} {fl : Bool} {bi : Nat} {ps : List (List UInt8)} {ks : List TE} {bs : List TB} {al : List TA} (h : EAt (fun _ => False) w cs (.mk k nm fl bi ps ks bs al)) (hE : ∀ e ∈ ks, PsOk e) (hs : svK ks) (hz : zK ks ≤ 50000000) (hT : Tabs w) (hL : ∀ x ∈ bs, PsOk x.body) (hsL : svB bs) (hzL : zB bs ≤ 50000000) :
 Calls Tryz.prog 35 #[.agg cs.toArray] w fun r w' => r = .returned (.string ⟨(joinS [[108, 101, 116], joinR (swB prF bs), [105, 110], swX prF ks]).toArray⟩) ∧ Fr Nil w w' := by
 have hA := fun w' (f : Fr Nil w w') => pkid_any (h.frN f) hE hs hz (hT.fr f)
 obtain ⟨a0, c0, a1, c1, a2, c2, a3, c3, kc, bc, ac, rfl, hp, hk, hk2, hb, hb2, ha, ha2⟩ := h.opened
 obtain ⟨nk, hnk⟩ : ∃ nk, ks.length = nk := ⟨_, rfl⟩
 obtain ⟨nb, hnb⟩ : ∃ nb, bs.length = nb := ⟨_, rfl⟩
 obtain ⟨na, hna⟩ : ∃ na, al.length = na := ⟨_, rfl⟩
 obtain ⟨np, hnp⟩ : ∃ np, ps.length = np := ⟨_, rfl⟩
 rw [hnk] at hk
 rw [hnb] at hb
 rw [hna] at ha
 have hp' : RowS (fun _ => False) w (.slice a0 np c0) ps := by rw [← hnp]; exact hp
 have hk9 := hk.lenX
 have hb9 := hb.lenX
 have ha9 := ha.lenX
 have htl := swX_len prF prF_len ks
 have hsl := swB_len prF prF_len bs
 have hul := joinR_le (swB prF bs)
 have hrows := fun w' (f : Fr Nil w w') => prowsTB_any (w := w') hnb (hb.frN f) (fun j hj => (hb2 j hj).formB) (fun j hj w2 g => pbind_of ((hb2 j hj).frN (f.comp g)) (hL _ (List.getElem_mem hj)) (svB_mem hsL (List.getElem_mem hj)) (by have := zB_mem (List.getElem_mem hj); omega) (hT.fr (f.comp g))) (by omega)
 obtain ⟨t, ht⟩ : ∃ t, swX prF ks = t := ⟨_, rfl⟩
 obtain ⟨u, hu⟩ : ∃ t, joinR (swB prF bs) = t := ⟨_, rfl⟩
 rw [ht] at htl ⊢
 rw [hu] at hul ⊢
 simp only [ht, hnk, hnb, hna, hnp] at hA
 simp only [hu] at hrows
 have htl2 : t.length ≤ 50000000 := by omega
 have hul2 : u.length ≤ 50000000 := by omega
 have hjn : ∀ (w' : World) (b : Nat), Blk w' b #[.string ⟨#[108, 101, 116]⟩, .string ⟨u.toArray⟩, .string ⟨#[105, 110]⟩, .string ⟨t.toArray⟩] 9 → Calls Tryz.prog 66 #[.slice (some ⟨b, 0, none⟩) 4 4] w' fun r w2 => r = .returned (.string ⟨(joinS [[108, 101, 116], u, [105, 110], t]).toArray⟩) ∧ Fr Nil w' w2 := fun w' b hb =>
  pjoin_any (RowS.of_blk (l := [[108, 101, 116], u, [105, 110], t]) hb (by show (4 : Nat) ≤ maxLen; decide) id) rfl (by rw [lenS_cons, lenS_cons, lenS_cons, lenS_cons, lenS_nil]; simp; omega)
 rw [hnk, hnb, hna, hnp]
 obtain ⟨W1, hW1⟩ : ∃ W1, w.alloc (.cells #[.int .i64 (k : Int), .string ⟨nm.toArray⟩, .bool fl, .int .u64 (bi : Int), .slice a0 np c0, .slice a1 nk c1, .slice a2 nb c2, .slice a3 na c3] 84) = W1 := ⟨_, rfl⟩
 obtain ⟨T, hTs⟩ : ∃ T, w.heap.size = T := ⟨_, rfl⟩
 have f1 : Fr Nil w W1 := by rw [← hW1]; exact frA
 have b1 : Blk W1 T #[.int .i64 (k : Int), .string ⟨nm.toArray⟩, .bool fl, .int .u64 (bi : Int), .slice a0 np c0, .slice a1 nk c1, .slice a2 nb c2, .slice a3 na c3] 84 := by rw [← hW1, ← hTs]; exact Blk.new _ _ _
 have hsz1 : T < W1.heap.size := b1.lt
 have HK2 : Hid (∀ w', Fr Nil W1 w' → w'.cell? ⟨T, 0, none⟩ = some (.int .i64 (k : Int)) ∧ w'.cell? ⟨T, 1, none⟩ = some (.string ⟨nm.toArray⟩) ∧ w'.cell? ⟨T, 2, none⟩ = some (.bool fl) ∧ w'.cell? ⟨T, 3, none⟩ = some (.int .u64 (bi : Int)) ∧ w'.cell? ⟨T, 4, none⟩ = some (.slice a0 np c0) ∧ w'.cell? ⟨T, 5, none⟩ = some (.slice a1 nk c1) ∧ w'.cell? ⟨T, 6, none⟩ = some (.slice a2 nb c2) ∧ w'.cell? ⟨T, 7, none⟩ = some (.slice a3 na c3)) := Lib.hid (fun w' f => by
  have b := f.blk b1 (fun q => q)
  have z0 := b.cell 0
  have z1 := b.cell 1
  have z2 := b.cell 2
  have z3 := b.cell 3
  have z4 := b.cell 4
  have z5 := b.cell 5
  have z6 := b.cell 6
  have z7 := b.cell 7
  simp at z0 z1 z2 z3 z4 z5 z6 z7
  exact ⟨z0, z1, z2, z3, z4, z5, z6, z7⟩)
 obtain ⟨z0, z1, z2, z3, z4, z5, z6, z7⟩ := HK2.out W1 (Fr.refl _ _)
 have zl := b1.lt
 have HF1 := Lib.hid f1
 have HX := Lib.hid (And.intro (fun w' (f : Fr Nil W1 w') => hA w' (HF1.out.comp f)) (And.intro (fun w' (f : Fr Nil W1 w') => hrows w' (HF1.out.comp f)) hjn))
 clear hA hjn hrows ht htl hu hul hsl hL hsL hzL
 clear h hp hp' hk hk2 hb hb2 ha ha2 hE hs hz hT hnk hnb hna hnp f1 b1
 go_enter Tryz.func35, Tryz.ntmps35
 go_upto_region 1 with fail
 try rw [hTs]
 try rw [hW1]
 clear hW1 hTs
 go_region_held3 (fun w' => w'.cell? ⟨T, 0, none⟩ = some (.int .i64 (k : Int)) ∧ w'.cell? ⟨T, 1, none⟩ = some (.string ⟨nm.toArray⟩) ∧ w'.cell? ⟨T, 2, none⟩ = some (.bool fl) ∧ w'.cell? ⟨T, 3, none⟩ = some (.int .u64 (bi : Int)) ∧ w'.cell? ⟨T, 4, none⟩ = some (.slice a0 np c0) ∧ w'.cell? ⟨T, 5, none⟩ = some (.slice a1 nk c1) ∧ w'.cell? ⟨T, 6, none⟩ = some (.slice a2 nb c2) ∧ w'.cell? ⟨T, 7, none⟩ = some (.slice a3 na c3)) (with_reducible refine HK2.out _ ?_; (first | assumption | exact frA)) (first
  | (go_at_call 68; refine (HX.out.2.1 _ (by first | assumption | exact frA)).mono ?_; rintro r wa ⟨rfl, fa⟩; have ga : Fr Nil W1 wa := Fr.comp (S := Nil) (by first | assumption | exact frA) fa; clear fa)
  | (go_at_call 69; refine (HX.out.1 _ (by first | assumption | exact frA)).mono ?_; rintro r wb ⟨rfl, fb⟩; have gb : Fr Nil W1 wb := Fr.comp (S := Nil) (by first | assumption | exact frA) fb; clear fb)
  | (go_at_call 66; refine (HX.out.2.2 _ _ (by exact blk0)).mono ?_; rintro r w9 ⟨rfl, f9⟩; have g9 : Fr Nil W1 w9 := Fr.comp (S := Nil) (by first | assumption | exact frA) f9; clear f9))
 all_goals
  go_wp2
  go_ret
  exact ⟨rfl, HF1.out.comp (by first | assumption | exact frA)⟩
theorem pschoice_any {w : World} {cs : List Value} {k : Nat} {nm : List UInt8} {fl : Bool} {bi : Nat} {ps : List (List UInt8)} {ks : List TE} {bs : List TB} {al : List TA} (h : EAt (fun _ => False) w cs (.mk k nm fl bi ps ks bs al)) (hE : ∀ e ∈ ks, PsOk e) (hs : svK ks) (hz : zK ks ≤ 50000000) (hT : Tabs w) (hL : ∀ x ∈ al, PsOk x.body) (hsL : svA al) (hzL : zA al ≤ 50000000) :
 Calls Tryz.prog 36 #[.agg cs.toArray] w fun r w' => r = .returned (.string ⟨(joinS [[99, 97, 115, 101], swX prF ks, [111, 102], [123] ++ joinR (swA prF al) ++ [125]]).toArray⟩) ∧ Fr Nil w w' := by
 have hA := fun w' (f : Fr Nil w w') => pkid_any (h.frN f) hE hs hz (hT.fr f)
 obtain ⟨a0, c0, a1, c1, a2, c2, a3, c3, kc, bc, ac, rfl, hp, hk, hk2, hb, hb2, ha, ha2⟩ := h.opened
 obtain ⟨nk, hnk⟩ : ∃ nk, ks.length = nk := ⟨_, rfl⟩
 obtain ⟨nb, hnb⟩ : ∃ nb, bs.length = nb := ⟨_, rfl⟩
 obtain ⟨na, hna⟩ : ∃ na, al.length = na := ⟨_, rfl⟩
 obtain ⟨np, hnp⟩ : ∃ np, ps.length = np := ⟨_, rfl⟩
 rw [hnk] at hk
 rw [hnb] at hb
 rw [hna] at ha
 have hp' : RowS (fun _ => False) w (.slice a0 np c0) ps := by rw [← hnp]; exact hp
 have hk9 := hk.lenX
 have hb9 := hb.lenX
 have ha9 := ha.lenX
 have htl := swX_len prF prF_len ks
 have hsl := swA_len prF prF_len al
 have hul := joinR_le (swA prF al)
 have hrows := fun w' (f : Fr Nil w w') => prowsTA_any (w := w') hna (ha.frN f) (fun j hj => (ha2 j hj).formA) (fun j hj w2 g => palt_of ((ha2 j hj).frN (f.comp g)) (hL _ (List.getElem_mem hj)) (svA_mem hsL (List.getElem_mem hj)) (by have := zA_mem (List.getElem_mem hj); omega) (hT.fr (f.comp g))) (by omega)
 obtain ⟨t, ht⟩ : ∃ t, swX prF ks = t := ⟨_, rfl⟩
 obtain ⟨u, hu⟩ : ∃ t, joinR (swA prF al) = t := ⟨_, rfl⟩
 rw [ht] at htl ⊢
 rw [hu] at hul ⊢
 simp only [ht, hnk, hnb, hna, hnp] at hA
 simp only [hu] at hrows
 have htl2 : t.length ≤ 50000000 := by omega
 have hul2 : u.length ≤ 50000000 := by omega
 obtain ⟨S1, hS1⟩ : ∃ x, [123] ++ u = x := ⟨_, rfl⟩
 have l1 : S1.length = u.length + 1 := by rw [← hS1]; simp
 obtain ⟨S2, hS2⟩ : ∃ x, S1 ++ [125] = x := ⟨_, rfl⟩
 have l2 : S2.length = S1.length + 1 := by rw [← hS2]; simp
 have sa1 : ∀ w, (Op.stringOp .add ⟨#[123]⟩ ⟨u.toArray⟩).run Tryz.prog w = .ok (.string ⟨S1.toArray⟩) w := fun w => by rw [← hS1]; exact sadd [123] u (by simp; omega) w
 have sa2 : ∀ w, (Op.stringOp .add ⟨S1.toArray⟩ ⟨#[125]⟩).run Tryz.prog w = .ok (.string ⟨S2.toArray⟩) w := fun w => by rw [← hS2]; exact sadd S1 [125] (by simp; omega) w
 rw [hS1, hS2]
 have hjn : ∀ (w' : World) (b : Nat), Blk w' b #[.string ⟨#[99, 97, 115, 101]⟩, .string ⟨t.toArray⟩, .string ⟨#[111, 102]⟩, .string ⟨S2.toArray⟩] 9 → Calls Tryz.prog 66 #[.slice (some ⟨b, 0, none⟩) 4 4] w' fun r w2 => r = .returned (.string ⟨(joinS [[99, 97, 115, 101], t, [111, 102], S2]).toArray⟩) ∧ Fr Nil w' w2 := fun w' b hb =>
  pjoin_any (RowS.of_blk (l := [[99, 97, 115, 101], t, [111, 102], S2]) hb (by show (4 : Nat) ≤ maxLen; decide) id) rfl (by rw [lenS_cons, lenS_cons, lenS_cons, lenS_cons, lenS_nil]; simp; omega)
 rw [hnk, hnb, hna, hnp]
 obtain ⟨W1, hW1⟩ : ∃ W1, w.alloc (.cells #[.int .i64 (k : Int), .string ⟨nm.toArray⟩, .bool fl, .int .u64 (bi : Int), .slice a0 np c0, .slice a1 nk c1, .slice a2 nb c2, .slice a3 na c3] 84) = W1 := ⟨_, rfl⟩
 obtain ⟨T, hTs⟩ : ∃ T, w.heap.size = T := ⟨_, rfl⟩
 have f1 : Fr Nil w W1 := by rw [← hW1]; exact frA
 have b1 : Blk W1 T #[.int .i64 (k : Int), .string ⟨nm.toArray⟩, .bool fl, .int .u64 (bi : Int), .slice a0 np c0, .slice a1 nk c1, .slice a2 nb c2, .slice a3 na c3] 84 := by rw [← hW1, ← hTs]; exact Blk.new _ _ _
 have hsz1 : T < W1.heap.size := b1.lt
 have HK2 : Hid (∀ w', Fr Nil W1 w' → w'.cell? ⟨T, 0, none⟩ = some (.int .i64 (k : Int)) ∧ w'.cell? ⟨T, 1, none⟩ = some (.string ⟨nm.toArray⟩) ∧ w'.cell? ⟨T, 2, none⟩ = some (.bool fl) ∧ w'.cell? ⟨T, 3, none⟩ = some (.int .u64 (bi : Int)) ∧ w'.cell? ⟨T, 4, none⟩ = some (.slice a0 np c0) ∧ w'.cell? ⟨T, 5, none⟩ = some (.slice a1 nk c1) ∧ w'.cell? ⟨T, 6, none⟩ = some (.slice a2 nb c2) ∧ w'.cell? ⟨T, 7, none⟩ = some (.slice a3 na c3)) := Lib.hid (fun w' f => by
  have b := f.blk b1 (fun q => q)
  have z0 := b.cell 0
  have z1 := b.cell 1
  have z2 := b.cell 2
  have z3 := b.cell 3
  have z4 := b.cell 4
  have z5 := b.cell 5
  have z6 := b.cell 6
  have z7 := b.cell 7
  simp at z0 z1 z2 z3 z4 z5 z6 z7
  exact ⟨z0, z1, z2, z3, z4, z5, z6, z7⟩)
 obtain ⟨z0, z1, z2, z3, z4, z5, z6, z7⟩ := HK2.out W1 (Fr.refl _ _)
 have zl := b1.lt
 have HF1 := Lib.hid f1
 have HX := Lib.hid (And.intro (fun w' (f : Fr Nil W1 w') => hA w' (HF1.out.comp f)) (And.intro (fun w' (f : Fr Nil W1 w') => hrows w' (HF1.out.comp f)) hjn))
 clear hA hjn hrows ht htl hu hul hsl hL hsL hzL
 clear h hp hp' hk hk2 hb hb2 ha ha2 hE hs hz hT hnk hnb hna hnp f1 b1
 go_enter Tryz.func36, Tryz.ntmps36
 go_upto_region 1 with fail
 try rw [hTs]
 try rw [hW1]
 clear hW1 hTs
 go_region_held3 (fun w' => w'.cell? ⟨T, 0, none⟩ = some (.int .i64 (k : Int)) ∧ w'.cell? ⟨T, 1, none⟩ = some (.string ⟨nm.toArray⟩) ∧ w'.cell? ⟨T, 2, none⟩ = some (.bool fl) ∧ w'.cell? ⟨T, 3, none⟩ = some (.int .u64 (bi : Int)) ∧ w'.cell? ⟨T, 4, none⟩ = some (.slice a0 np c0) ∧ w'.cell? ⟨T, 5, none⟩ = some (.slice a1 nk c1) ∧ w'.cell? ⟨T, 6, none⟩ = some (.slice a2 nb c2) ∧ w'.cell? ⟨T, 7, none⟩ = some (.slice a3 na c3)) (with_reducible refine HK2.out _ ?_; (first | assumption | exact frA)) (first
  | (go_at_call 70; refine (HX.out.2.1 _ (by first | assumption | exact frA)).mono ?_; rintro r wa ⟨rfl, fa⟩; have ga : Fr Nil W1 wa := Fr.comp (S := Nil) (by first | assumption | exact frA) fa; clear fa)
  | (go_at_call 69; refine (HX.out.1 _ (by first | assumption | exact frA)).mono ?_; rintro r wb ⟨rfl, fb⟩; have gb : Fr Nil W1 wb := Fr.comp (S := Nil) (by first | assumption | exact frA) fb; clear fb)
  | (go_at_call 66; refine (HX.out.2.2 _ _ (by exact blk0)).mono ?_; rintro r w9 ⟨rfl, f9⟩; have g9 : Fr Nil W1 w9 := Fr.comp (S := Nil) (by first | assumption | exact frA) f9; clear f9))
 all_goals
  go_wp2
  go_ret
  exact ⟨rfl, HF1.out.comp (by first | assumption | exact frA)⟩
set_option maxHeartbeats 1000000 in
theorem pe_1 {w : World} {nm : ByteArray} {fl : Bool} {bi : Int} {a0 a1 a2 a3 : Option Addr} {np nk nb na c0 c1 c2 c3 : Nat} {R : List UInt8}
 (hM : ∀ w', Fr Nil w w' → Calls Tryz.prog 30 #[.agg #[.int .i64 1, .string nm, .bool fl, .int .u64 bi, .slice a0 np c0, .slice a1 nk c1, .slice a2 nb c2, .slice a3 na c3]] w' fun r w2 => r = .returned (.string ⟨R.toArray⟩) ∧ Fr Nil w' w2) :
 Calls Tryz.prog 18 #[.agg #[.int .i64 1, .string nm, .bool fl, .int .u64 bi, .slice a0 np c0, .slice a1 nk c1, .slice a2 nb c2, .slice a3 na c3]] w fun r w2 => r = .returned (.string ⟨R.toArray⟩) ∧ Fr Nil w w2 := by
 obtain ⟨T, hT⟩ : ∃ T, w.heap.size = T := ⟨_, rfl⟩
 obtain ⟨U, hU⟩ : ∃ U, T + 1 = U := ⟨_, rfl⟩
 obtain ⟨W1, hW1⟩ : ∃ W1, (w.alloc (.cells #[.int .i64 1, .string nm, .bool fl, .int .u64 bi, .slice a0 np c0, .slice a1 nk c1, .slice a2 nb c2, .slice a3 na c3] 49)).alloc (.cells #[.nilFunc, .func (.func 30) #[] #[], .func (.func 31) #[] #[], .func (.func 32) #[] #[], .func (.func 33) #[] #[], .func (.func 34) #[] #[], .func (.func 35) #[] #[], .func (.func 36) #[] #[], .func (.func 37) #[] #[]] 85) = W1 := ⟨_, rfl⟩
 have f1 : Fr Nil w W1 := by rw [← hW1]; exact frA
 have b1 : Blk W1 T #[.int .i64 1, .string nm, .bool fl, .int .u64 bi, .slice a0 np c0, .slice a1 nk c1, .slice a2 nb c2, .slice a3 na c3] 49 := by rw [← hW1, ← hT]; exact blk0
 have b2 : Blk W1 U #[.nilFunc, .func (.func 30) #[] #[], .func (.func 31) #[] #[], .func (.func 32) #[] #[], .func (.func 33) #[] #[], .func (.func 34) #[] #[], .func (.func 35) #[] #[], .func (.func 36) #[] #[], .func (.func 37) #[] #[]] 85 := by rw [← hW1, ← hU, ← hT]; exact blk0
 have HK2 : Hid (∀ w', Fr Nil W1 w' → w'.cell? ⟨T, 0, none⟩ = some (.int .i64 1) ∧ w'.cell? ⟨T, 1, none⟩ = some (.string nm) ∧ w'.cell? ⟨T, 2, none⟩ = some (.bool fl) ∧ w'.cell? ⟨T, 3, none⟩ = some (.int .u64 bi) ∧ w'.cell? ⟨T, 4, none⟩ = some (.slice a0 np c0) ∧ w'.cell? ⟨T, 5, none⟩ = some (.slice a1 nk c1) ∧ w'.cell? ⟨T, 6, none⟩ = some (.slice a2 nb c2) ∧ w'.cell? ⟨T, 7, none⟩ = some (.slice a3 na c3) ∧ w'.cell? ⟨U, 1, none⟩ = some (.func (.func 30) #[] #[])) := Lib.hid (fun w' f => by
  have b := f.blk b1 (fun q => q)
  have z0 := b.cell 0
  have z1 := b.cell 1
  have z2 := b.cell 2
  have z3 := b.cell 3
  have z4 := b.cell 4
  have z5 := b.cell 5
  have z6 := b.cell 6
  have z7 := b.cell 7
  have y := (f.blk b2 (fun q => q)).cell 1
  simp at z0 z1 z2 z3 z4 z5 z6 z7 y
  exact ⟨z0, z1, z2, z3, z4, z5, z6, z7, y⟩)
 have hS0 := HK2.out W1 (Fr.refl _ _)
 have zl := b1.lt
 have yl := b2.lt
 have HM := Lib.hid (fun w' (f : Fr Nil W1 w') => hM w' (f1.comp f))
 have HF1 := Lib.hid f1
 clear hM f1 b1 b2
 have hE' : Enters Tryz.prog 30 := enters_of Tryz.func30 (by kernel_rfl) rfl
 unfold Enters at hE'
 go_enter Tryz.func18, Tryz.ntmps18
 go_upto_region 4 with fail
 try rw [hT]
 try rw [hU]
 try rw [hW1]
 clear hT hU hW1
 go_region_held3 (fun w' => w'.cell? ⟨T, 0, none⟩ = some (.int .i64 1) ∧ w'.cell? ⟨T, 1, none⟩ = some (.string nm) ∧ w'.cell? ⟨T, 2, none⟩ = some (.bool fl) ∧ w'.cell? ⟨T, 3, none⟩ = some (.int .u64 bi) ∧ w'.cell? ⟨T, 4, none⟩ = some (.slice a0 np c0) ∧ w'.cell? ⟨T, 5, none⟩ = some (.slice a1 nk c1) ∧ w'.cell? ⟨T, 6, none⟩ = some (.slice a2 nb c2) ∧ w'.cell? ⟨T, 7, none⟩ = some (.slice a3 na c3) ∧ w'.cell? ⟨U, 1, none⟩ = some (.func (.func 30) #[] #[])) (with_reducible refine HK2.out _ ?_; (first | assumption | exact frA)) (first
  | (go_at_call 30; refine (HM.out _ (by first | assumption | exact frA)).mono ?_; rintro r w2 ⟨rfl, f2⟩; have g2 : Fr Nil W1 w2 := Fr.comp (S := Nil) (by first | assumption | exact frA) f2; clear f2))
 all_goals
  go_wp2
  go_ret
  exact ⟨rfl, HF1.out.comp (by first | assumption | exact frA)⟩
set_option maxHeartbeats 1000000 in
theorem pe_2 {w : World} {nm : ByteArray} {fl : Bool} {bi : Int} {a0 a1 a2 a3 : Option Addr} {np nk nb na c0 c1 c2 c3 : Nat} {R : List UInt8}
 (hM : ∀ w', Fr Nil w w' → Calls Tryz.prog 31 #[.agg #[.int .i64 2, .string nm, .bool fl, .int .u64 bi, .slice a0 np c0, .slice a1 nk c1, .slice a2 nb c2, .slice a3 na c3]] w' fun r w2 => r = .returned (.string ⟨R.toArray⟩) ∧ Fr Nil w' w2) :
 Calls Tryz.prog 18 #[.agg #[.int .i64 2, .string nm, .bool fl, .int .u64 bi, .slice a0 np c0, .slice a1 nk c1, .slice a2 nb c2, .slice a3 na c3]] w fun r w2 => r = .returned (.string ⟨R.toArray⟩) ∧ Fr Nil w w2 := by
 obtain ⟨T, hT⟩ : ∃ T, w.heap.size = T := ⟨_, rfl⟩
 obtain ⟨U, hU⟩ : ∃ U, T + 1 = U := ⟨_, rfl⟩
 obtain ⟨W1, hW1⟩ : ∃ W1, (w.alloc (.cells #[.int .i64 2, .string nm, .bool fl, .int .u64 bi, .slice a0 np c0, .slice a1 nk c1, .slice a2 nb c2, .slice a3 na c3] 49)).alloc (.cells #[.nilFunc, .func (.func 30) #[] #[], .func (.func 31) #[] #[], .func (.func 32) #[] #[], .func (.func 33) #[] #[], .func (.func 34) #[] #[], .func (.func 35) #[] #[], .func (.func 36) #[] #[], .func (.func 37) #[] #[]] 85) = W1 := ⟨_, rfl⟩
 have f1 : Fr Nil w W1 := by rw [← hW1]; exact frA
 have b1 : Blk W1 T #[.int .i64 2, .string nm, .bool fl, .int .u64 bi, .slice a0 np c0, .slice a1 nk c1, .slice a2 nb c2, .slice a3 na c3] 49 := by rw [← hW1, ← hT]; exact blk0
 have b2 : Blk W1 U #[.nilFunc, .func (.func 30) #[] #[], .func (.func 31) #[] #[], .func (.func 32) #[] #[], .func (.func 33) #[] #[], .func (.func 34) #[] #[], .func (.func 35) #[] #[], .func (.func 36) #[] #[], .func (.func 37) #[] #[]] 85 := by rw [← hW1, ← hU, ← hT]; exact blk0
 have HK2 : Hid (∀ w', Fr Nil W1 w' → w'.cell? ⟨T, 0, none⟩ = some (.int .i64 2) ∧ w'.cell? ⟨T, 1, none⟩ = some (.string nm) ∧ w'.cell? ⟨T, 2, none⟩ = some (.bool fl) ∧ w'.cell? ⟨T, 3, none⟩ = some (.int .u64 bi) ∧ w'.cell? ⟨T, 4, none⟩ = some (.slice a0 np c0) ∧ w'.cell? ⟨T, 5, none⟩ = some (.slice a1 nk c1) ∧ w'.cell? ⟨T, 6, none⟩ = some (.slice a2 nb c2) ∧ w'.cell? ⟨T, 7, none⟩ = some (.slice a3 na c3) ∧ w'.cell? ⟨U, 2, none⟩ = some (.func (.func 31) #[] #[])) := Lib.hid (fun w' f => by
  have b := f.blk b1 (fun q => q)
  have z0 := b.cell 0
  have z1 := b.cell 1
  have z2 := b.cell 2
  have z3 := b.cell 3
  have z4 := b.cell 4
  have z5 := b.cell 5
  have z6 := b.cell 6
  have z7 := b.cell 7
  have y := (f.blk b2 (fun q => q)).cell 2
  simp at z0 z1 z2 z3 z4 z5 z6 z7 y
  exact ⟨z0, z1, z2, z3, z4, z5, z6, z7, y⟩)
 have hS0 := HK2.out W1 (Fr.refl _ _)
 have zl := b1.lt
 have yl := b2.lt
 have HM := Lib.hid (fun w' (f : Fr Nil W1 w') => hM w' (f1.comp f))
 have HF1 := Lib.hid f1
 clear hM f1 b1 b2
 have hE' : Enters Tryz.prog 31 := enters_of Tryz.func31 (by kernel_rfl) rfl
 unfold Enters at hE'
 go_enter Tryz.func18, Tryz.ntmps18
 go_upto_region 4 with fail
 try rw [hT]
 try rw [hU]
 try rw [hW1]
 clear hT hU hW1
 go_region_held3 (fun w' => w'.cell? ⟨T, 0, none⟩ = some (.int .i64 2) ∧ w'.cell? ⟨T, 1, none⟩ = some (.string nm) ∧ w'.cell? ⟨T, 2, none⟩ = some (.bool fl) ∧ w'.cell? ⟨T, 3, none⟩ = some (.int .u64 bi) ∧ w'.cell? ⟨T, 4, none⟩ = some (.slice a0 np c0) ∧ w'.cell? ⟨T, 5, none⟩ = some (.slice a1 nk c1) ∧ w'.cell? ⟨T, 6, none⟩ = some (.slice a2 nb c2) ∧ w'.cell? ⟨T, 7, none⟩ = some (.slice a3 na c3) ∧ w'.cell? ⟨U, 2, none⟩ = some (.func (.func 31) #[] #[])) (with_reducible refine HK2.out _ ?_; (first | assumption | exact frA)) (first
  | (go_at_call 31; refine (HM.out _ (by first | assumption | exact frA)).mono ?_; rintro r w2 ⟨rfl, f2⟩; have g2 : Fr Nil W1 w2 := Fr.comp (S := Nil) (by first | assumption | exact frA) f2; clear f2))
 all_goals
  go_wp2
  go_ret
  exact ⟨rfl, HF1.out.comp (by first | assumption | exact frA)⟩
set_option maxHeartbeats 1000000 in
theorem pe_3 {w : World} {nm : ByteArray} {fl : Bool} {bi : Int} {a0 a1 a2 a3 : Option Addr} {np nk nb na c0 c1 c2 c3 : Nat} {R : List UInt8}
 (hM : ∀ w', Fr Nil w w' → Calls Tryz.prog 32 #[.agg #[.int .i64 3, .string nm, .bool fl, .int .u64 bi, .slice a0 np c0, .slice a1 nk c1, .slice a2 nb c2, .slice a3 na c3]] w' fun r w2 => r = .returned (.string ⟨R.toArray⟩) ∧ Fr Nil w' w2) :
 Calls Tryz.prog 18 #[.agg #[.int .i64 3, .string nm, .bool fl, .int .u64 bi, .slice a0 np c0, .slice a1 nk c1, .slice a2 nb c2, .slice a3 na c3]] w fun r w2 => r = .returned (.string ⟨R.toArray⟩) ∧ Fr Nil w w2 := by
 obtain ⟨T, hT⟩ : ∃ T, w.heap.size = T := ⟨_, rfl⟩
 obtain ⟨U, hU⟩ : ∃ U, T + 1 = U := ⟨_, rfl⟩
 obtain ⟨W1, hW1⟩ : ∃ W1, (w.alloc (.cells #[.int .i64 3, .string nm, .bool fl, .int .u64 bi, .slice a0 np c0, .slice a1 nk c1, .slice a2 nb c2, .slice a3 na c3] 49)).alloc (.cells #[.nilFunc, .func (.func 30) #[] #[], .func (.func 31) #[] #[], .func (.func 32) #[] #[], .func (.func 33) #[] #[], .func (.func 34) #[] #[], .func (.func 35) #[] #[], .func (.func 36) #[] #[], .func (.func 37) #[] #[]] 85) = W1 := ⟨_, rfl⟩
 have f1 : Fr Nil w W1 := by rw [← hW1]; exact frA
 have b1 : Blk W1 T #[.int .i64 3, .string nm, .bool fl, .int .u64 bi, .slice a0 np c0, .slice a1 nk c1, .slice a2 nb c2, .slice a3 na c3] 49 := by rw [← hW1, ← hT]; exact blk0
 have b2 : Blk W1 U #[.nilFunc, .func (.func 30) #[] #[], .func (.func 31) #[] #[], .func (.func 32) #[] #[], .func (.func 33) #[] #[], .func (.func 34) #[] #[], .func (.func 35) #[] #[], .func (.func 36) #[] #[], .func (.func 37) #[] #[]] 85 := by rw [← hW1, ← hU, ← hT]; exact blk0
 have HK2 : Hid (∀ w', Fr Nil W1 w' → w'.cell? ⟨T, 0, none⟩ = some (.int .i64 3) ∧ w'.cell? ⟨T, 1, none⟩ = some (.string nm) ∧ w'.cell? ⟨T, 2, none⟩ = some (.bool fl) ∧ w'.cell? ⟨T, 3, none⟩ = some (.int .u64 bi) ∧ w'.cell? ⟨T, 4, none⟩ = some (.slice a0 np c0) ∧ w'.cell? ⟨T, 5, none⟩ = some (.slice a1 nk c1) ∧ w'.cell? ⟨T, 6, none⟩ = some (.slice a2 nb c2) ∧ w'.cell? ⟨T, 7, none⟩ = some (.slice a3 na c3) ∧ w'.cell? ⟨U, 3, none⟩ = some (.func (.func 32) #[] #[])) := Lib.hid (fun w' f => by
  have b := f.blk b1 (fun q => q)
  have z0 := b.cell 0
  have z1 := b.cell 1
  have z2 := b.cell 2
  have z3 := b.cell 3
  have z4 := b.cell 4
  have z5 := b.cell 5
  have z6 := b.cell 6
  have z7 := b.cell 7
  have y := (f.blk b2 (fun q => q)).cell 3
  simp at z0 z1 z2 z3 z4 z5 z6 z7 y
  exact ⟨z0, z1, z2, z3, z4, z5, z6, z7, y⟩)
 have hS0 := HK2.out W1 (Fr.refl _ _)
 have zl := b1.lt
 have yl := b2.lt
 have HM := Lib.hid (fun w' (f : Fr Nil W1 w') => hM w' (f1.comp f))
 have HF1 := Lib.hid f1
 clear hM f1 b1 b2
 have hE' : Enters Tryz.prog 32 := enters_of Tryz.func32 (by kernel_rfl) rfl
 unfold Enters at hE'
 go_enter Tryz.func18, Tryz.ntmps18
 go_upto_region 4 with fail
 try rw [hT]
 try rw [hU]
 try rw [hW1]
 clear hT hU hW1
 go_region_held3 (fun w' => w'.cell? ⟨T, 0, none⟩ = some (.int .i64 3) ∧ w'.cell? ⟨T, 1, none⟩ = some (.string nm) ∧ w'.cell? ⟨T, 2, none⟩ = some (.bool fl) ∧ w'.cell? ⟨T, 3, none⟩ = some (.int .u64 bi) ∧ w'.cell? ⟨T, 4, none⟩ = some (.slice a0 np c0) ∧ w'.cell? ⟨T, 5, none⟩ = some (.slice a1 nk c1) ∧ w'.cell? ⟨T, 6, none⟩ = some (.slice a2 nb c2) ∧ w'.cell? ⟨T, 7, none⟩ = some (.slice a3 na c3) ∧ w'.cell? ⟨U, 3, none⟩ = some (.func (.func 32) #[] #[])) (with_reducible refine HK2.out _ ?_; (first | assumption | exact frA)) (first
  | (go_at_call 32; refine (HM.out _ (by first | assumption | exact frA)).mono ?_; rintro r w2 ⟨rfl, f2⟩; have g2 : Fr Nil W1 w2 := Fr.comp (S := Nil) (by first | assumption | exact frA) f2; clear f2))
 all_goals
  go_wp2
  go_ret
  exact ⟨rfl, HF1.out.comp (by first | assumption | exact frA)⟩
set_option maxHeartbeats 1000000 in
theorem pe_4 {w : World} {nm : ByteArray} {fl : Bool} {bi : Int} {a0 a1 a2 a3 : Option Addr} {np nk nb na c0 c1 c2 c3 : Nat} {R : List UInt8}
 (hM : ∀ w', Fr Nil w w' → Calls Tryz.prog 33 #[.agg #[.int .i64 4, .string nm, .bool fl, .int .u64 bi, .slice a0 np c0, .slice a1 nk c1, .slice a2 nb c2, .slice a3 na c3]] w' fun r w2 => r = .returned (.string ⟨R.toArray⟩) ∧ Fr Nil w' w2) :
 Calls Tryz.prog 18 #[.agg #[.int .i64 4, .string nm, .bool fl, .int .u64 bi, .slice a0 np c0, .slice a1 nk c1, .slice a2 nb c2, .slice a3 na c3]] w fun r w2 => r = .returned (.string ⟨R.toArray⟩) ∧ Fr Nil w w2 := by
 obtain ⟨T, hT⟩ : ∃ T, w.heap.size = T := ⟨_, rfl⟩
 obtain ⟨U, hU⟩ : ∃ U, T + 1 = U := ⟨_, rfl⟩
 obtain ⟨W1, hW1⟩ : ∃ W1, (w.alloc (.cells #[.int .i64 4, .string nm, .bool fl, .int .u64 bi, .slice a0 np c0, .slice a1 nk c1, .slice a2 nb c2, .slice a3 na c3] 49)).alloc (.cells #[.nilFunc, .func (.func 30) #[] #[], .func (.func 31) #[] #[], .func (.func 32) #[] #[], .func (.func 33) #[] #[], .func (.func 34) #[] #[], .func (.func 35) #[] #[], .func (.func 36) #[] #[], .func (.func 37) #[] #[]] 85) = W1 := ⟨_, rfl⟩
 have f1 : Fr Nil w W1 := by rw [← hW1]; exact frA
 have b1 : Blk W1 T #[.int .i64 4, .string nm, .bool fl, .int .u64 bi, .slice a0 np c0, .slice a1 nk c1, .slice a2 nb c2, .slice a3 na c3] 49 := by rw [← hW1, ← hT]; exact blk0
 have b2 : Blk W1 U #[.nilFunc, .func (.func 30) #[] #[], .func (.func 31) #[] #[], .func (.func 32) #[] #[], .func (.func 33) #[] #[], .func (.func 34) #[] #[], .func (.func 35) #[] #[], .func (.func 36) #[] #[], .func (.func 37) #[] #[]] 85 := by rw [← hW1, ← hU, ← hT]; exact blk0
 have HK2 : Hid (∀ w', Fr Nil W1 w' → w'.cell? ⟨T, 0, none⟩ = some (.int .i64 4) ∧ w'.cell? ⟨T, 1, none⟩ = some (.string nm) ∧ w'.cell? ⟨T, 2, none⟩ = some (.bool fl) ∧ w'.cell? ⟨T, 3, none⟩ = some (.int .u64 bi) ∧ w'.cell? ⟨T, 4, none⟩ = some (.slice a0 np c0) ∧ w'.cell? ⟨T, 5, none⟩ = some (.slice a1 nk c1) ∧ w'.cell? ⟨T, 6, none⟩ = some (.slice a2 nb c2) ∧ w'.cell? ⟨T, 7, none⟩ = some (.slice a3 na c3) ∧ w'.cell? ⟨U, 4, none⟩ = some (.func (.func 33) #[] #[])) := Lib.hid (fun w' f => by
  have b := f.blk b1 (fun q => q)
  have z0 := b.cell 0
  have z1 := b.cell 1
  have z2 := b.cell 2
  have z3 := b.cell 3
  have z4 := b.cell 4
  have z5 := b.cell 5
  have z6 := b.cell 6
  have z7 := b.cell 7
  have y := (f.blk b2 (fun q => q)).cell 4
  simp at z0 z1 z2 z3 z4 z5 z6 z7 y
  exact ⟨z0, z1, z2, z3, z4, z5, z6, z7, y⟩)
 have hS0 := HK2.out W1 (Fr.refl _ _)
 have zl := b1.lt
 have yl := b2.lt
 have HM := Lib.hid (fun w' (f : Fr Nil W1 w') => hM w' (f1.comp f))
 have HF1 := Lib.hid f1
 clear hM f1 b1 b2
 have hE' : Enters Tryz.prog 33 := enters_of Tryz.func33 (by kernel_rfl) rfl
 unfold Enters at hE'
 go_enter Tryz.func18, Tryz.ntmps18
 go_upto_region 4 with fail
 try rw [hT]
 try rw [hU]
 try rw [hW1]
 clear hT hU hW1
 go_region_held3 (fun w' => w'.cell? ⟨T, 0, none⟩ = some (.int .i64 4) ∧ w'.cell? ⟨T, 1, none⟩ = some (.string nm) ∧ w'.cell? ⟨T, 2, none⟩ = some (.bool fl) ∧ w'.cell? ⟨T, 3, none⟩ = some (.int .u64 bi) ∧ w'.cell? ⟨T, 4, none⟩ = some (.slice a0 np c0) ∧ w'.cell? ⟨T, 5, none⟩ = some (.slice a1 nk c1) ∧ w'.cell? ⟨T, 6, none⟩ = some (.slice a2 nb c2) ∧ w'.cell? ⟨T, 7, none⟩ = some (.slice a3 na c3) ∧ w'.cell? ⟨U, 4, none⟩ = some (.func (.func 33) #[] #[])) (with_reducible refine HK2.out _ ?_; (first | assumption | exact frA)) (first
  | (go_at_call 33; refine (HM.out _ (by first | assumption | exact frA)).mono ?_; rintro r w2 ⟨rfl, f2⟩; have g2 : Fr Nil W1 w2 := Fr.comp (S := Nil) (by first | assumption | exact frA) f2; clear f2))
 all_goals
  go_wp2
  go_ret
  exact ⟨rfl, HF1.out.comp (by first | assumption | exact frA)⟩
set_option maxHeartbeats 1000000 in
theorem pe_5 {w : World} {nm : ByteArray} {fl : Bool} {bi : Int} {a0 a1 a2 a3 : Option Addr} {np nk nb na c0 c1 c2 c3 : Nat} {R : List UInt8}
 (hM : ∀ w', Fr Nil w w' → Calls Tryz.prog 34 #[.agg #[.int .i64 5, .string nm, .bool fl, .int .u64 bi, .slice a0 np c0, .slice a1 nk c1, .slice a2 nb c2, .slice a3 na c3]] w' fun r w2 => r = .returned (.string ⟨R.toArray⟩) ∧ Fr Nil w' w2) :
 Calls Tryz.prog 18 #[.agg #[.int .i64 5, .string nm, .bool fl, .int .u64 bi, .slice a0 np c0, .slice a1 nk c1, .slice a2 nb c2, .slice a3 na c3]] w fun r w2 => r = .returned (.string ⟨R.toArray⟩) ∧ Fr Nil w w2 := by
 obtain ⟨T, hT⟩ : ∃ T, w.heap.size = T := ⟨_, rfl⟩
 obtain ⟨U, hU⟩ : ∃ U, T + 1 = U := ⟨_, rfl⟩
 obtain ⟨W1, hW1⟩ : ∃ W1, (w.alloc (.cells #[.int .i64 5, .string nm, .bool fl, .int .u64 bi, .slice a0 np c0, .slice a1 nk c1, .slice a2 nb c2, .slice a3 na c3] 49)).alloc (.cells #[.nilFunc, .func (.func 30) #[] #[], .func (.func 31) #[] #[], .func (.func 32) #[] #[], .func (.func 33) #[] #[], .func (.func 34) #[] #[], .func (.func 35) #[] #[], .func (.func 36) #[] #[], .func (.func 37) #[] #[]] 85) = W1 := ⟨_, rfl⟩
 have f1 : Fr Nil w W1 := by rw [← hW1]; exact frA
 have b1 : Blk W1 T #[.int .i64 5, .string nm, .bool fl, .int .u64 bi, .slice a0 np c0, .slice a1 nk c1, .slice a2 nb c2, .slice a3 na c3] 49 := by rw [← hW1, ← hT]; exact blk0
 have b2 : Blk W1 U #[.nilFunc, .func (.func 30) #[] #[], .func (.func 31) #[] #[], .func (.func 32) #[] #[], .func (.func 33) #[] #[], .func (.func 34) #[] #[], .func (.func 35) #[] #[], .func (.func 36) #[] #[], .func (.func 37) #[] #[]] 85 := by rw [← hW1, ← hU, ← hT]; exact blk0
 have HK2 : Hid (∀ w', Fr Nil W1 w' → w'.cell? ⟨T, 0, none⟩ = some (.int .i64 5) ∧ w'.cell? ⟨T, 1, none⟩ = some (.string nm) ∧ w'.cell? ⟨T, 2, none⟩ = some (.bool fl) ∧ w'.cell? ⟨T, 3, none⟩ = some (.int .u64 bi) ∧ w'.cell? ⟨T, 4, none⟩ = some (.slice a0 np c0) ∧ w'.cell? ⟨T, 5, none⟩ = some (.slice a1 nk c1) ∧ w'.cell? ⟨T, 6, none⟩ = some (.slice a2 nb c2) ∧ w'.cell? ⟨T, 7, none⟩ = some (.slice a3 na c3) ∧ w'.cell? ⟨U, 5, none⟩ = some (.func (.func 34) #[] #[])) := Lib.hid (fun w' f => by
  have b := f.blk b1 (fun q => q)
  have z0 := b.cell 0
  have z1 := b.cell 1
  have z2 := b.cell 2
  have z3 := b.cell 3
  have z4 := b.cell 4
  have z5 := b.cell 5
  have z6 := b.cell 6
  have z7 := b.cell 7
  have y := (f.blk b2 (fun q => q)).cell 5
  simp at z0 z1 z2 z3 z4 z5 z6 z7 y
  exact ⟨z0, z1, z2, z3, z4, z5, z6, z7, y⟩)
 have hS0 := HK2.out W1 (Fr.refl _ _)
 have zl := b1.lt
 have yl := b2.lt
 have HM := Lib.hid (fun w' (f : Fr Nil W1 w') => hM w' (f1.comp f))
 have HF1 := Lib.hid f1
 clear hM f1 b1 b2
 have hE' : Enters Tryz.prog 34 := enters_of Tryz.func34 (by kernel_rfl) rfl
 unfold Enters at hE'
 go_enter Tryz.func18, Tryz.ntmps18
 go_upto_region 4 with fail
 try rw [hT]
 try rw [hU]
 try rw [hW1]
 clear hT hU hW1
 go_region_held3 (fun w' => w'.cell? ⟨T, 0, none⟩ = some (.int .i64 5) ∧ w'.cell? ⟨T, 1, none⟩ = some (.string nm) ∧ w'.cell? ⟨T, 2, none⟩ = some (.bool fl) ∧ w'.cell? ⟨T, 3, none⟩ = some (.int .u64 bi) ∧ w'.cell? ⟨T, 4, none⟩ = some (.slice a0 np c0) ∧ w'.cell? ⟨T, 5, none⟩ = some (.slice a1 nk c1) ∧ w'.cell? ⟨T, 6, none⟩ = some (.slice a2 nb c2) ∧ w'.cell? ⟨T, 7, none⟩ = some (.slice a3 na c3) ∧ w'.cell? ⟨U, 5, none⟩ = some (.func (.func 34) #[] #[])) (with_reducible refine HK2.out _ ?_; (first | assumption | exact frA)) (first
  | (go_at_call 34; refine (HM.out _ (by first | assumption | exact frA)).mono ?_; rintro r w2 ⟨rfl, f2⟩; have g2 : Fr Nil W1 w2 := Fr.comp (S := Nil) (by first | assumption | exact frA) f2; clear f2))
 all_goals
  go_wp2
  go_ret
  exact ⟨rfl, HF1.out.comp (by first | assumption | exact frA)⟩
set_option maxHeartbeats 1000000 in
theorem pe_6 {w : World} {nm : ByteArray} {fl : Bool} {bi : Int} {a0 a1 a2 a3 : Option Addr} {np nk nb na c0 c1 c2 c3 : Nat} {R : List UInt8}
 (hM : ∀ w', Fr Nil w w' → Calls Tryz.prog 35 #[.agg #[.int .i64 6, .string nm, .bool fl, .int .u64 bi, .slice a0 np c0, .slice a1 nk c1, .slice a2 nb c2, .slice a3 na c3]] w' fun r w2 => r = .returned (.string ⟨R.toArray⟩) ∧ Fr Nil w' w2) :
 Calls Tryz.prog 18 #[.agg #[.int .i64 6, .string nm, .bool fl, .int .u64 bi, .slice a0 np c0, .slice a1 nk c1, .slice a2 nb c2, .slice a3 na c3]] w fun r w2 => r = .returned (.string ⟨R.toArray⟩) ∧ Fr Nil w w2 := by
 obtain ⟨T, hT⟩ : ∃ T, w.heap.size = T := ⟨_, rfl⟩
 obtain ⟨U, hU⟩ : ∃ U, T + 1 = U := ⟨_, rfl⟩
 obtain ⟨W1, hW1⟩ : ∃ W1, (w.alloc (.cells #[.int .i64 6, .string nm, .bool fl, .int .u64 bi, .slice a0 np c0, .slice a1 nk c1, .slice a2 nb c2, .slice a3 na c3] 49)).alloc (.cells #[.nilFunc, .func (.func 30) #[] #[], .func (.func 31) #[] #[], .func (.func 32) #[] #[], .func (.func 33) #[] #[], .func (.func 34) #[] #[], .func (.func 35) #[] #[], .func (.func 36) #[] #[], .func (.func 37) #[] #[]] 85) = W1 := ⟨_, rfl⟩
 have f1 : Fr Nil w W1 := by rw [← hW1]; exact frA
 have b1 : Blk W1 T #[.int .i64 6, .string nm, .bool fl, .int .u64 bi, .slice a0 np c0, .slice a1 nk c1, .slice a2 nb c2, .slice a3 na c3] 49 := by rw [← hW1, ← hT]; exact blk0
 have b2 : Blk W1 U #[.nilFunc, .func (.func 30) #[] #[], .func (.func 31) #[] #[], .func (.func 32) #[] #[], .func (.func 33) #[] #[], .func (.func 34) #[] #[], .func (.func 35) #[] #[], .func (.func 36) #[] #[], .func (.func 37) #[] #[]] 85 := by rw [← hW1, ← hU, ← hT]; exact blk0
 have HK2 : Hid (∀ w', Fr Nil W1 w' → w'.cell? ⟨T, 0, none⟩ = some (.int .i64 6) ∧ w'.cell? ⟨T, 1, none⟩ = some (.string nm) ∧ w'.cell? ⟨T, 2, none⟩ = some (.bool fl) ∧ w'.cell? ⟨T, 3, none⟩ = some (.int .u64 bi) ∧ w'.cell? ⟨T, 4, none⟩ = some (.slice a0 np c0) ∧ w'.cell? ⟨T, 5, none⟩ = some (.slice a1 nk c1) ∧ w'.cell? ⟨T, 6, none⟩ = some (.slice a2 nb c2) ∧ w'.cell? ⟨T, 7, none⟩ = some (.slice a3 na c3) ∧ w'.cell? ⟨U, 6, none⟩ = some (.func (.func 35) #[] #[])) := Lib.hid (fun w' f => by
  have b := f.blk b1 (fun q => q)
  have z0 := b.cell 0
  have z1 := b.cell 1
  have z2 := b.cell 2
  have z3 := b.cell 3
  have z4 := b.cell 4
  have z5 := b.cell 5
  have z6 := b.cell 6
  have z7 := b.cell 7
  have y := (f.blk b2 (fun q => q)).cell 6
  simp at z0 z1 z2 z3 z4 z5 z6 z7 y
  exact ⟨z0, z1, z2, z3, z4, z5, z6, z7, y⟩)
 have hS0 := HK2.out W1 (Fr.refl _ _)
 have zl := b1.lt
 have yl := b2.lt
 have HM := Lib.hid (fun w' (f : Fr Nil W1 w') => hM w' (f1.comp f))
 have HF1 := Lib.hid f1
 clear hM f1 b1 b2
 have hE' : Enters Tryz.prog 35 := enters_of Tryz.func35 (by kernel_rfl) rfl
 unfold Enters at hE'
 go_enter Tryz.func18, Tryz.ntmps18
 go_upto_region 4 with fail
 try rw [hT]
 try rw [hU]
 try rw [hW1]
 clear hT hU hW1
 go_region_held3 (fun w' => w'.cell? ⟨T, 0, none⟩ = some (.int .i64 6) ∧ w'.cell? ⟨T, 1, none⟩ = some (.string nm) ∧ w'.cell? ⟨T, 2, none⟩ = some (.bool fl) ∧ w'.cell? ⟨T, 3, none⟩ = some (.int .u64 bi) ∧ w'.cell? ⟨T, 4, none⟩ = some (.slice a0 np c0) ∧ w'.cell? ⟨T, 5, none⟩ = some (.slice a1 nk c1) ∧ w'.cell? ⟨T, 6, none⟩ = some (.slice a2 nb c2) ∧ w'.cell? ⟨T, 7, none⟩ = some (.slice a3 na c3) ∧ w'.cell? ⟨U, 6, none⟩ = some (.func (.func 35) #[] #[])) (with_reducible refine HK2.out _ ?_; (first | assumption | exact frA)) (first
  | (go_at_call 35; refine (HM.out _ (by first | assumption | exact frA)).mono ?_; rintro r w2 ⟨rfl, f2⟩; have g2 : Fr Nil W1 w2 := Fr.comp (S := Nil) (by first | assumption | exact frA) f2; clear f2))
 all_goals
  go_wp2
  go_ret
  exact ⟨rfl, HF1.out.comp (by first | assumption | exact frA)⟩
set_option maxHeartbeats 1000000 in
theorem pe_7 {w : World} {nm : ByteArray} {fl : Bool} {bi : Int} {a0 a1 a2 a3 : Option Addr} {np nk nb na c0 c1 c2 c3 : Nat} {R : List UInt8}
 (hM : ∀ w', Fr Nil w w' → Calls Tryz.prog 36 #[.agg #[.int .i64 7, .string nm, .bool fl, .int .u64 bi, .slice a0 np c0, .slice a1 nk c1, .slice a2 nb c2, .slice a3 na c3]] w' fun r w2 => r = .returned (.string ⟨R.toArray⟩) ∧ Fr Nil w' w2) :
 Calls Tryz.prog 18 #[.agg #[.int .i64 7, .string nm, .bool fl, .int .u64 bi, .slice a0 np c0, .slice a1 nk c1, .slice a2 nb c2, .slice a3 na c3]] w fun r w2 => r = .returned (.string ⟨R.toArray⟩) ∧ Fr Nil w w2 := by
 obtain ⟨T, hT⟩ : ∃ T, w.heap.size = T := ⟨_, rfl⟩
 obtain ⟨U, hU⟩ : ∃ U, T + 1 = U := ⟨_, rfl⟩
 obtain ⟨W1, hW1⟩ : ∃ W1, (w.alloc (.cells #[.int .i64 7, .string nm, .bool fl, .int .u64 bi, .slice a0 np c0, .slice a1 nk c1, .slice a2 nb c2, .slice a3 na c3] 49)).alloc (.cells #[.nilFunc, .func (.func 30) #[] #[], .func (.func 31) #[] #[], .func (.func 32) #[] #[], .func (.func 33) #[] #[], .func (.func 34) #[] #[], .func (.func 35) #[] #[], .func (.func 36) #[] #[], .func (.func 37) #[] #[]] 85) = W1 := ⟨_, rfl⟩
 have f1 : Fr Nil w W1 := by rw [← hW1]; exact frA
 have b1 : Blk W1 T #[.int .i64 7, .string nm, .bool fl, .int .u64 bi, .slice a0 np c0, .slice a1 nk c1, .slice a2 nb c2, .slice a3 na c3] 49 := by rw [← hW1, ← hT]; exact blk0
 have b2 : Blk W1 U #[.nilFunc, .func (.func 30) #[] #[], .func (.func 31) #[] #[], .func (.func 32) #[] #[], .func (.func 33) #[] #[], .func (.func 34) #[] #[], .func (.func 35) #[] #[], .func (.func 36) #[] #[], .func (.func 37) #[] #[]] 85 := by rw [← hW1, ← hU, ← hT]; exact blk0
 have HK2 : Hid (∀ w', Fr Nil W1 w' → w'.cell? ⟨T, 0, none⟩ = some (.int .i64 7) ∧ w'.cell? ⟨T, 1, none⟩ = some (.string nm) ∧ w'.cell? ⟨T, 2, none⟩ = some (.bool fl) ∧ w'.cell? ⟨T, 3, none⟩ = some (.int .u64 bi) ∧ w'.cell? ⟨T, 4, none⟩ = some (.slice a0 np c0) ∧ w'.cell? ⟨T, 5, none⟩ = some (.slice a1 nk c1) ∧ w'.cell? ⟨T, 6, none⟩ = some (.slice a2 nb c2) ∧ w'.cell? ⟨T, 7, none⟩ = some (.slice a3 na c3) ∧ w'.cell? ⟨U, 7, none⟩ = some (.func (.func 36) #[] #[])) := Lib.hid (fun w' f => by
  have b := f.blk b1 (fun q => q)
  have z0 := b.cell 0
  have z1 := b.cell 1
  have z2 := b.cell 2
  have z3 := b.cell 3
  have z4 := b.cell 4
  have z5 := b.cell 5
  have z6 := b.cell 6
  have z7 := b.cell 7
  have y := (f.blk b2 (fun q => q)).cell 7
  simp at z0 z1 z2 z3 z4 z5 z6 z7 y
  exact ⟨z0, z1, z2, z3, z4, z5, z6, z7, y⟩)
 have hS0 := HK2.out W1 (Fr.refl _ _)
 have zl := b1.lt
 have yl := b2.lt
 have HM := Lib.hid (fun w' (f : Fr Nil W1 w') => hM w' (f1.comp f))
 have HF1 := Lib.hid f1
 clear hM f1 b1 b2
 have hE' : Enters Tryz.prog 36 := enters_of Tryz.func36 (by kernel_rfl) rfl
 unfold Enters at hE'
 go_enter Tryz.func18, Tryz.ntmps18
 go_upto_region 4 with fail
 try rw [hT]
 try rw [hU]
 try rw [hW1]
 clear hT hU hW1
 go_region_held3 (fun w' => w'.cell? ⟨T, 0, none⟩ = some (.int .i64 7) ∧ w'.cell? ⟨T, 1, none⟩ = some (.string nm) ∧ w'.cell? ⟨T, 2, none⟩ = some (.bool fl) ∧ w'.cell? ⟨T, 3, none⟩ = some (.int .u64 bi) ∧ w'.cell? ⟨T, 4, none⟩ = some (.slice a0 np c0) ∧ w'.cell? ⟨T, 5, none⟩ = some (.slice a1 nk c1) ∧ w'.cell? ⟨T, 6, none⟩ = some (.slice a2 nb c2) ∧ w'.cell? ⟨T, 7, none⟩ = some (.slice a3 na c3) ∧ w'.cell? ⟨U, 7, none⟩ = some (.func (.func 36) #[] #[])) (with_reducible refine HK2.out _ ?_; (first | assumption | exact frA)) (first
  | (go_at_call 36; refine (HM.out _ (by first | assumption | exact frA)).mono ?_; rintro r w2 ⟨rfl, f2⟩; have g2 : Fr Nil W1 w2 := Fr.comp (S := Nil) (by first | assumption | exact frA) f2; clear f2))
 all_goals
  go_wp2
  go_ret
  exact ⟨rfl, HF1.out.comp (by first | assumption | exact frA)⟩
set_option maxHeartbeats 1000000 in
theorem pe_8 {w : World} {nm : ByteArray} {fl : Bool} {bi : Int} {a0 a1 a2 a3 : Option Addr} {np nk nb na c0 c1 c2 c3 : Nat} {R : List UInt8}
 (hM : ∀ w', Fr Nil w w' → Calls Tryz.prog 37 #[.agg #[.int .i64 8, .string nm, .bool fl, .int .u64 bi, .slice a0 np c0, .slice a1 nk c1, .slice a2 nb c2, .slice a3 na c3]] w' fun r w2 => r = .returned (.string ⟨R.toArray⟩) ∧ Fr Nil w' w2) :
 Calls Tryz.prog 18 #[.agg #[.int .i64 8, .string nm, .bool fl, .int .u64 bi, .slice a0 np c0, .slice a1 nk c1, .slice a2 nb c2, .slice a3 na c3]] w fun r w2 => r = .returned (.string ⟨R.toArray⟩) ∧ Fr Nil w w2 := by
 obtain ⟨T, hT⟩ : ∃ T, w.heap.size = T := ⟨_, rfl⟩
 obtain ⟨U, hU⟩ : ∃ U, T + 1 = U := ⟨_, rfl⟩
 obtain ⟨W1, hW1⟩ : ∃ W1, (w.alloc (.cells #[.int .i64 8, .string nm, .bool fl, .int .u64 bi, .slice a0 np c0, .slice a1 nk c1, .slice a2 nb c2, .slice a3 na c3] 49)).alloc (.cells #[.nilFunc, .func (.func 30) #[] #[], .func (.func 31) #[] #[], .func (.func 32) #[] #[], .func (.func 33) #[] #[], .func (.func 34) #[] #[], .func (.func 35) #[] #[], .func (.func 36) #[] #[], .func (.func 37) #[] #[]] 85) = W1 := ⟨_, rfl⟩
 have f1 : Fr Nil w W1 := by rw [← hW1]; exact frA
 have b1 : Blk W1 T #[.int .i64 8, .string nm, .bool fl, .int .u64 bi, .slice a0 np c0, .slice a1 nk c1, .slice a2 nb c2, .slice a3 na c3] 49 := by rw [← hW1, ← hT]; exact blk0
 have b2 : Blk W1 U #[.nilFunc, .func (.func 30) #[] #[], .func (.func 31) #[] #[], .func (.func 32) #[] #[], .func (.func 33) #[] #[], .func (.func 34) #[] #[], .func (.func 35) #[] #[], .func (.func 36) #[] #[], .func (.func 37) #[] #[]] 85 := by rw [← hW1, ← hU, ← hT]; exact blk0
 have HK2 : Hid (∀ w', Fr Nil W1 w' → w'.cell? ⟨T, 0, none⟩ = some (.int .i64 8) ∧ w'.cell? ⟨T, 1, none⟩ = some (.string nm) ∧ w'.cell? ⟨T, 2, none⟩ = some (.bool fl) ∧ w'.cell? ⟨T, 3, none⟩ = some (.int .u64 bi) ∧ w'.cell? ⟨T, 4, none⟩ = some (.slice a0 np c0) ∧ w'.cell? ⟨T, 5, none⟩ = some (.slice a1 nk c1) ∧ w'.cell? ⟨T, 6, none⟩ = some (.slice a2 nb c2) ∧ w'.cell? ⟨T, 7, none⟩ = some (.slice a3 na c3) ∧ w'.cell? ⟨U, 8, none⟩ = some (.func (.func 37) #[] #[])) := Lib.hid (fun w' f => by
  have b := f.blk b1 (fun q => q)
  have z0 := b.cell 0
  have z1 := b.cell 1
  have z2 := b.cell 2
  have z3 := b.cell 3
  have z4 := b.cell 4
  have z5 := b.cell 5
  have z6 := b.cell 6
  have z7 := b.cell 7
  have y := (f.blk b2 (fun q => q)).cell 8
  simp at z0 z1 z2 z3 z4 z5 z6 z7 y
  exact ⟨z0, z1, z2, z3, z4, z5, z6, z7, y⟩)
 have hS0 := HK2.out W1 (Fr.refl _ _)
 have zl := b1.lt
 have yl := b2.lt
 have HM := Lib.hid (fun w' (f : Fr Nil W1 w') => hM w' (f1.comp f))
 have HF1 := Lib.hid f1
 clear hM f1 b1 b2
 have hE' : Enters Tryz.prog 37 := enters_of Tryz.func37 (by kernel_rfl) rfl
 unfold Enters at hE'
 go_enter Tryz.func18, Tryz.ntmps18
 go_upto_region 4 with fail
 try rw [hT]
 try rw [hU]
 try rw [hW1]
 clear hT hU hW1
 go_region_held3 (fun w' => w'.cell? ⟨T, 0, none⟩ = some (.int .i64 8) ∧ w'.cell? ⟨T, 1, none⟩ = some (.string nm) ∧ w'.cell? ⟨T, 2, none⟩ = some (.bool fl) ∧ w'.cell? ⟨T, 3, none⟩ = some (.int .u64 bi) ∧ w'.cell? ⟨T, 4, none⟩ = some (.slice a0 np c0) ∧ w'.cell? ⟨T, 5, none⟩ = some (.slice a1 nk c1) ∧ w'.cell? ⟨T, 6, none⟩ = some (.slice a2 nb c2) ∧ w'.cell? ⟨T, 7, none⟩ = some (.slice a3 na c3) ∧ w'.cell? ⟨U, 8, none⟩ = some (.func (.func 37) #[] #[])) (with_reducible refine HK2.out _ ?_; (first | assumption | exact frA)) (first
  | (go_at_call 37; refine (HM.out _ (by first | assumption | exact frA)).mono ?_; rintro r w2 ⟨rfl, f2⟩; have g2 : Fr Nil W1 w2 := Fr.comp (S := Nil) (by first | assumption | exact frA) f2; clear f2))
 all_goals
  go_wp2
  go_ret
  exact ⟨rfl, HF1.out.comp (by first | assumption | exact frA)⟩
end Go.Proofs.YtlnmicddobgppaaGreatDoor
