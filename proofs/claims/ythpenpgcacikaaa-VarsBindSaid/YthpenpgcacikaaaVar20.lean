/-
  The law VarsBind, walked (layer 12). Conditions: none but the arguments' forms.
-/
import Derived.Test.YthpenpgcacikaaaVar17
namespace Go.Proofs.Ythpenpgcacikaaa
set_option linter.unusedSimpArgs false
set_option linter.unusedVariables false
open Go.RowKit

theorem free_row2 {w : World} {cs : List Value} {e : TE} (hE : EAt (fun _ => False) w cs e) (ho : okE e) (hwt : wtE e ≤ 400000) {U : List (List UInt8)} {M : Nat} (hU : uniq (occE e []) = U) (hM : U.length = M) :
    Calls Try.prog 10 #[.agg cs.toArray] w fun r w' => ∃ va vc, r = .returned (.slice va M vc) ∧ RowS (fun _ => False) w' (.slice va M vc) U ∧ Fr Nil w w' := by
  refine (free_any hE ho hwt).mono ?_
  rintro r w' ⟨v, rfl, own, f⟩
  rw [hU] at own
  obtain ⟨va, vc, rfl⟩ := owns_shape own
  have h := RowS.nocare (owns_row own)
  rw [hM] at h ⊢
  exact ⟨va, vc, rfl, h, f⟩
/-- A let of a name whose body is an expression, for the name. -/
def letT (z : List UInt8) (e : TE) : TE := .mk 6 [] false 0 [] [.mk 1 z false 0 [] [] [] []] [.mk z [] e] []
theorem let_ok8 {z : List UInt8} {e : TE} (ho : okE e) (hz : z.length ≤ maxLen) : okE (letT z e) := ⟨Nat.zero_le _, fun x hx => by simp at hx, ⟨⟨hz, fun x hx => by simp at hx, trivial, trivial, trivial⟩, trivial⟩, ⟨⟨hz, fun x hx => by simp at hx, ho⟩, trivial⟩, trivial⟩
theorem let_vs {z : List UInt8} {e : TE} (ho : vsE e) : vsE (letT z e) := ⟨.inr (.inl ⟨rfl, rfl, rfl⟩), ⟨⟨.inl rfl, trivial, trivial, trivial⟩, trivial⟩, ⟨ho, trivial⟩, trivial⟩
theorem let_wt {z : List UInt8} {e : TE} : wtE (letT z e) = wtE e + 2 := by simp [letT, wtE, wtK, wtB, wtA]; omega
theorem let_free {z : List UInt8} {e : TE} (ho : vsE e) : uniq (occE (letT z e) []) = woF (freeE e) [z] := by
  rw [uniq_free (let_vs ho)]
  have ez : freeE (.mk 1 z false 0 [] [] [] []) = [z] := by rw [freeE, if_pos rfl]
  have e1 : freeE (letT z e) = woF (woF (joinF (joinF [] (woF (freeE e) [])) [z]) [z]) [] := by
    unfold letT
    rw [freeE, if_neg (by decide)]
    simp only [freeB, freeK, freeA, nmB, List.map_cons, List.map_nil, TB.name, ez]
  have e2 : joinF [] (freeE e) = freeE e := by
    conv => lhs; rw [← uniq_free ho, joinF_uniq, ← uniq_eq, uniq_free ho]
  rw [e1, woF_nil, woF_nil, e2, ← woF_join, woF_self (a := [z]) (b := [z]) (fun x hx => hx)]
  rfl
/-- A let, as a law makes it. -/
theorem let_at {X : Nat → Prop} {w : World} {b1 b2 : Nat} {c : List Value} {z : List UInt8} {e : TE} {t1 t2 : TypeId} (hb1 : Blk w b1 (.string ⟨z.toArray⟩ :: .slice none 0 0 :: c).toArray t1) (hb2 : Blk w b2 #[.int .i64 1, .string ⟨z.toArray⟩, .bool false, .int .u64 0, .slice none 0 0, .slice none 0 0, .slice none 0 0, .slice none 0 0] t2) (hE : EAt X w c e) (hX1 : ¬ X b1) (hX2 : ¬ X b2) :
    EAt X w [.int .i64 6, .string ⟨#[]⟩, .bool false, .int .u64 0, .slice none 0 0, .slice (some ⟨b2, 0, none⟩) 1 1, .slice (some ⟨b1, 0, none⟩) 1 1, .slice none 0 0] (letT z e) := by
  have hv : EAt X w [.int .i64 1, .string ⟨z.toArray⟩, .bool false, .int .u64 0, .slice none 0 0, .slice none 0 0, .slice none 0 0, .slice none 0 0] (.mk 1 z false 0 [] [] [] []) := EAt.rows (kids := []) (alts := []) (binds := []) (params := []) (kc := fun _ => []) (ac := fun _ => []) (bc := fun _ => []) 1 z RowC.nil RowC.nil (fun i hi => absurd hi (Nat.not_lt_zero i)) RowC.nil (fun i hi => absurd hi (Nat.not_lt_zero i)) RowC.nil (fun i hi => absurd hi (Nat.not_lt_zero i))
  exact EAt.rows (kids := [.mk 1 z false 0 [] [] [] []]) (alts := []) (binds := [.mk z [] e]) (params := []) (ac := fun _ => []) 6 [] RowC.nil (RowC.one hb2 rfl hX2) (fun i hi => by
    have e : i = 0 := by simp at hi; omega
    subst e
    exact hv) (RowC.one hb1 (by simp [hE.len]) hX1) (fun i hi => by
    have e : i = 0 := by simp at hi; omega
    subst e
    exact ⟨_, _, rfl, RowC.nil, hE⟩) RowC.nil (fun i hi => absurd hi (Nat.not_lt_zero i))
set_option maxRecDepth 100000 in
set_option maxHeartbeats 8000000 in
theorem bind12_any (s zs : ByteArray) (w : World) (hzs : zs.size ≤ maxLen) :
    Calls Try.prog 6 #[.string s, .string zs] w fun r w' => r = .returned (.bool true) ∧ Fr Nil w w' := by
  obtain ⟨i0, hi, hz0, hz1, hz2⟩ := info_parts infoS
  by_cases hs : s.size ≤ 3000
  · have c1 : ¬ (3000 : Int) < (s.size : Int) := by omega
    obtain ⟨z, hz, hzl⟩ : ∃ z : List UInt8, zs = ⟨z.toArray⟩ ∧ z.length ≤ maxLen := ⟨zs.data.toList, by simp, by rw [size_of]; exact hzs⟩
    subst hz
    have hS := parse_src s.data.toList (by rw [size_of]; unfold maxLen; omega)
    obtain ⟨bs, hbs⟩ : ∃ bs, (parseF s.data.toList).1.binds = bs := ⟨_, rfl⟩
    rw [hbs] at hS
    have HS := Lib.hid (And.intro hS (And.intro hbs hzl))
    have hsz : s.size ≤ 1000000 := by omega
    clear hS hbs hzl hzs
    go_enter Try.func6, Try.ntmps6
    go_wp2_with fail
    refine (awake_any w).mono ?_
    rintro e w1 ⟨rfl, f1⟩
    have HF1 := Lib.hid f1
    clear f1
    go_wp2_with fail
    refine (told_any s w1 hsz).mono ?_
    rw [HS.out.2.1]
    rintro e w2 ⟨v, rfl, hb, f2⟩
    obtain ⟨ba, bc, rfl⟩ := hb.shape
    obtain ⟨nb, hnb⟩ : ∃ nb, bs.length = nb := ⟨_, rfl⟩
    have hnb9 : nb ≤ 4096 := by have := HS.out.1.len; omega
    rw [hnb] at hb ⊢
    have HB := Lib.hid (And.intro hb (And.intro hnb (HF1.out.comp f2)))
    clear hb hnb f2
    go_wp2_with fail
    go_loopg [6] nb (fun g iv wr => ∃ i : Nat, g = nb - i ∧ i ≤ nb ∧ iv = .int .i64 (i : Int) ∧ Hid (Fr Nil w2 wr))
    case atStart => exact ⟨0, rfl, by omega, rfl, Lib.hid (Fr.refl _ _)⟩
    case round =>
      obtain ⟨i, rfl, hil, rfl, HF⟩ := hrel
      obtain ⟨Vr, hVr⟩ : ∃ V, V = wr := ⟨_, rfl⟩
      subst hVr
      have j0 : (0 : Int) ≤ (i : Int) := by omega
      by_cases hlt : i < nb
      · have hiL : i < bs.length := by rw [HB.out.2.1]; exact hlt
        have wk : IntKind.i64.wrap ((i : Int) + 1) = (i : Int) + 1 := by rw [IntKind.wrap_i64]; omega
        have j1 : (i : Int) < (nb : Int) := by omega
        obtain ⟨b, off, pa, pn, pc, c, rfl, hlb, hfo, hpr, hE, hpn, hc⟩ := (HB.out.1.fr HF.out (fun _ q => q.elim)).at hiL
        have hok := HS.out.1.ok _ (List.getElem_mem hiL)
        obtain ⟨e, he⟩ : ∃ e, bs[i].body = e := ⟨_, rfl⟩
        rw [he] at hE hok
        obtain ⟨k, nm, fl, bi, a0, n0, c0, a1, n1, c1, a2, n2, c2, a3, n3, c3, rfl⟩ := hfo
        have hwt : wtE e ≤ 4000 + 96 := by have := hok.2.2.1; omega
        obtain ⟨_, _, hcc⟩ := hc Vr (Fr.refl _ _)
        have p0 := hcc 0 _ rfl
        have p1 := hcc 1 _ rfl
        have p2 := hcc 2 _ rfl
        have p3 := hcc 3 _ rfl
        have p4 := hcc 4 _ rfl
        have p5 := hcc 5 _ rfl
        have p6 := hcc 6 _ rfl
        have p7 := hcc 7 _ rfl
        simp only [Nat.add_zero] at p0
        obtain ⟨U, hU⟩ : ∃ U, freeE e = U := ⟨_, rfl⟩
        obtain ⟨Z, hZ⟩ : ∃ Z, woF U [z] = Z := ⟨_, rfl⟩
        obtain ⟨nU, hnU⟩ : ∃ n, U.length = n := ⟨_, rfl⟩
        obtain ⟨nZ, hnZ⟩ : ∃ n, Z.length = n := ⟨_, rfl⟩
        have hU9 : nU ≤ 4096 := by have := freeE_len e; rw [hU] at this; omega
        have HE := Lib.hid (And.intro hE (And.intro hok.1 (And.intro hok.2.1 (And.intro hwt (And.intro hU (And.intro hZ (And.intro hnU hnZ)))))))
        clear hE hok hc hcc hpr hpn he hwt hU hZ hnU hnZ
        go_wp2_with fail
        obtain ⟨T, hT⟩ : ∃ T, Vr.heap.size = T := ⟨_, rfl⟩
        rw [hT]
        obtain ⟨W1, hW1⟩ : ∃ W1, Vr.alloc (.cells #[.int .i64 (k : Int), .string nm, .bool fl, .int .u64 (bi : Int), .slice a0 n0 c0, .slice a1 n1 c1, .slice a2 n2 c2, .slice a3 n3 c3] 32) = W1 := ⟨_, rfl⟩
        rw [hW1]
        have H1 := Lib.hid (And.intro (show Fr Nil Vr W1 by rw [← hW1]; (repeat (first | (with_reducible exact Fr.refl _ _) | (with_reducible assumption) | (with_reducible exact Fr.of_nil (by assumption)) | (with_reducible refine Fr.drew ?_) | (with_reducible refine Fr.drewN ?_ _) | (with_reducible refine Fr.alloc ?_ _) | (with_reducible refine Fr.set ?_ _ _ (by first | (intros; omega) | (simp; done) | (simp; omega))) | (with_reducible refine Fr.via ?_ (by assumption)) | (with_reducible refine Fr.comp ?_ (by assumption))))) (show Blk W1 T #[.int .i64 (k : Int), .string nm, .bool fl, .int .u64 (bi : Int), .slice a0 n0 c0, .slice a1 n1 c1, .slice a2 n2 c2, .slice a3 n3 c3] 32 by rw [← hW1, ← hT]; exact Blk.new _ _ _))
        clear hW1 hT p0 p1 p2 p3 p4 p5 p6 p7
        refine (free_row (HE.out.1.fr H1.out.1 (fun _ q => q.elim)) HE.out.2.1 HE.out.2.2.2.1 (by rw [uniq_free HE.out.2.2.1, HE.out.2.2.2.2.1]) HE.out.2.2.2.2.2.2.1).mono ?_
        rintro r w3 ⟨fa, fc, rfl, r3, f3⟩
        have H3 := Lib.hid (And.intro r3 (H1.out.1.comp f3))
        have b3 := f3.blk H1.out.2 (fun q => q)
        have x0 := b3.cell 0
        have x1 := b3.cell 1
        have x2 := b3.cell 2
        have x3 := b3.cell 3
        have x4 := b3.cell 4
        have x5 := b3.cell 5
        have x6 := b3.cell 6
        have x7 := b3.cell 7
        simp at x0 x1 x2 x3 x4 x5 x6 x7
        have l3 := b3.lt
        have HB3 := Lib.hid b3
        clear r3 f3 b3
        go_wp2_with fail
        have hfa : Fr Nil w3 ((w3.alloc (.cells #[.string ⟨z.toArray⟩] 9)).alloc (.cells #[.int .i64 (k : Int), .string nm, .bool fl, .int .u64 (bi : Int), .slice a0 n0 c0, .slice a1 n1 c1, .slice a2 n2 c2, .slice a3 n3 c3] 32)) := by (repeat (first | (with_reducible exact Fr.refl _ _) | (with_reducible assumption) | (with_reducible exact Fr.of_nil (by assumption)) | (with_reducible refine Fr.drew ?_) | (with_reducible refine Fr.drewN ?_ _) | (with_reducible refine Fr.alloc ?_ _) | (with_reducible refine Fr.set ?_ _ _ (by first | (intros; omega) | (simp; done) | (simp; omega))) | (with_reducible refine Fr.via ?_ (by assumption)) | (with_reducible refine Fr.comp ?_ (by assumption))))
        have hlam := lam_at (U := [z]) (e := e) (t := 32) (X := fun _ => False) (RowS.fr (RowS.single (x := z) (X := fun _ => False) (Blk.new w3 #[.string ⟨z.toArray⟩] 9) (fun q => q)) (S := Nil) (w' := (w3.alloc (.cells #[.string ⟨z.toArray⟩] 9)).alloc (.cells #[.int .i64 (k : Int), .string nm, .bool fl, .int .u64 (bi : Int), .slice a0 n0 c0, .slice a1 n1 c1, .slice a2 n2 c2, .slice a3 n3 c3] 32)) (by (repeat (first | (with_reducible exact Fr.refl _ _) | (with_reducible assumption) | (with_reducible exact Fr.of_nil (by assumption)) | (with_reducible refine Fr.drew ?_) | (with_reducible refine Fr.drewN ?_ _) | (with_reducible refine Fr.alloc ?_ _) | (with_reducible refine Fr.set ?_ _ _ (by first | (intros; omega) | (simp; done) | (simp; omega))) | (with_reducible refine Fr.via ?_ (by assumption)) | (with_reducible refine Fr.comp ?_ (by assumption))))) (fun _ q => q.elim)) (Blk.new _ ([.int .i64 (k : Int), .string nm, .bool fl, .int .u64 (bi : Int), .slice a0 n0 c0, .slice a1 n1 c1, .slice a2 n2 c2, .slice a3 n3 c3] : List Value).toArray _) (HE.out.1.fr (H3.out.2.comp hfa) (fun _ q => q.elim)) (fun q => q)
        rw [show (w3.alloc (.cells #[.string ⟨z.toArray⟩] 9)).heap.size = w3.heap.size + 1 from World.size_alloc _ _] at hlam
        have hfr := free_row2 hlam (lam_ok8 HE.out.2.1 (fun x hx => by rw [List.mem_singleton] at hx; rw [hx]; exact HS.out.2.2)) (by rw [lam_wt]; have := HE.out.2.2.2.1; simp only [List.length_singleton]; omega) (U := Z) (by rw [lam_free HE.out.2.2.1, HE.out.2.2.2.2.1, HE.out.2.2.2.2.2.1]) HE.out.2.2.2.2.2.2.2
        refine hfr.mono ?_
        rintro r w4 ⟨ga, gc, rfl, r4, f4⟩
        have F4 : Fr Nil w3 w4 := hfa.comp f4
        have H4 := Lib.hid (And.intro r4 F4)
        have b4 := F4.blk HB3.out (fun q => q)
        clear x0 x1 x2 x3 x4 x5 x6 x7 l3
        have x0 := b4.cell 0
        have x1 := b4.cell 1
        have x2 := b4.cell 2
        have x3 := b4.cell 3
        have x4 := b4.cell 4
        have x5 := b4.cell 5
        have x6 := b4.cell 6
        have x7 := b4.cell 7
        simp at x0 x1 x2 x3 x4 x5 x6 x7
        have l4 := b4.lt
        have HB4 := Lib.hid b4
        clear r4 f4 F4 b4 hfr hlam hfa
        go_wp2_with fail
        obtain ⟨wl, hwl⟩ : ∃ wl, (w4.alloc (.cells #[.string ⟨z.toArray⟩, .slice none 0 0, .int .i64 (k : Int), .string nm, .bool fl, .int .u64 (bi : Int), .slice a0 n0 c0, .slice a1 n1 c1, .slice a2 n2 c2, .slice a3 n3 c3] 34)).alloc (.cells #[.int .i64 1, .string ⟨z.toArray⟩, .bool false, .int .u64 0, .slice none 0 0, .slice none 0 0, .slice none 0 0, .slice none 0 0] 32) = wl := ⟨_, rfl⟩
        rw [hwl]
        have hfl : Fr Nil w4 wl := by rw [← hwl]; (repeat (first | (with_reducible exact Fr.refl _ _) | (with_reducible assumption) | (with_reducible exact Fr.of_nil (by assumption)) | (with_reducible refine Fr.drew ?_) | (with_reducible refine Fr.drewN ?_ _) | (with_reducible refine Fr.alloc ?_ _) | (with_reducible refine Fr.set ?_ _ _ (by first | (intros; omega) | (simp; done) | (simp; omega))) | (with_reducible refine Fr.via ?_ (by assumption)) | (with_reducible refine Fr.comp ?_ (by assumption))))
        have hl1 : Blk wl w4.heap.size #[.string ⟨z.toArray⟩, .slice none 0 0, .int .i64 (k : Int), .string nm, .bool fl, .int .u64 (bi : Int), .slice a0 n0 c0, .slice a1 n1 c1, .slice a2 n2 c2, .slice a3 n3 c3] 34 := by rw [← hwl]; (unfold Blk; simp (disch := first | omega | (simp; done) | (simp; omega)) only [hp_drew, hp_drewN, hp_alloc, hp_other, hp_same, hp_new, upd_cells, Option.map_some])
        have hl2 : Blk wl (w4.heap.size + 1) #[.int .i64 1, .string ⟨z.toArray⟩, .bool false, .int .u64 0, .slice none 0 0, .slice none 0 0, .slice none 0 0, .slice none 0 0] 32 := by rw [← hwl]; (unfold Blk; simp (disch := first | omega | (simp; done) | (simp; omega)) only [hp_drew, hp_drewN, hp_alloc, hp_other, hp_same, hp_new, upd_cells, Option.map_some])
        have hlet := let_at (X := fun _ => False) hl1 hl2 (HE.out.1.fr ((H3.out.2.comp H4.out.2).comp hfl) (fun _ q => q.elim)) (fun q => q) (fun q => q)
        clear hwl
        refine (free_row2 hlet (let_ok8 HE.out.2.1 HS.out.2.2) (by rw [let_wt]; have := HE.out.2.2.2.1; omega) (U := Z) (by rw [let_free HE.out.2.2.1, HE.out.2.2.2.2.1, HE.out.2.2.2.2.2.1]) HE.out.2.2.2.2.2.2.2).mono ?_
        rintro r w5 ⟨ha, hc, rfl, r5, f5⟩
        have F5 : Fr Nil w4 w5 := hfl.comp f5
        have H5 := Lib.hid (And.intro r5 F5)
        have b5 := F5.blk HB4.out (fun q => q)
        have HB5 := Lib.hid b5
        have H35 := Lib.hid (RowS.fr H3.out.1 (H4.out.2.comp F5) (fun _ q => q.elim))
        have HV5 := Lib.hid ((H3.out.2.comp H4.out.2).comp F5)
        clear r5 f5 F5 b5 hl1 hl2 hlet hfl x0 x1 x2 x3 x4 x5 x6 x7 l4
        go_wp2_with fail
        go_loopg [11, 12] nU (fun g vo iv wx => ∃ (k2 : Nat) (u : Value), u = vo ∧ g = nU - k2 ∧ k2 ≤ nU ∧ iv = .int .i64 (k2 : Int) ∧ Hid (wx.ownsRow w5.heap.size 9 1 u (woF (U.take k2) [z]).length (strC (woF (U.take k2) [z])) ∧ Fr Nil w5 wx))
        case atStart => exact ⟨0, _, rfl, rfl, by omega, rfl, Lib.hid ⟨by simpa [strC, woF] using World.ownsRow_nil _ _ _ _, Fr.refl _ _⟩⟩
        case round =>
          obtain ⟨k2, u, rfl, rfl, hkl, rfl, HX⟩ := hrel
          have i0' : (0 : Int) ≤ (k2 : Int) := by omega
          have hszx := HX.out.2.size
          by_cases hlt2 : k2 < nU
          · have hkU : k2 < U.length := by rw [HE.out.2.2.2.2.2.2.1]; exact hlt2
            have wk2 : IntKind.i64.wrap ((k2 : Int) + 1) = (k2 : Int) + 1 := by rw [IntKind.wrap_i64]; omega
            have i1 : (k2 : Int) < (nU : Int) := by omega
            obtain ⟨ub, uo, rfl, _, p0⟩ := (RowS.fr H35.out HX.out.2 (fun _ q => q.elim)).cell k2 hkU
            obtain ⟨x, hx⟩ : ∃ x, U[k2] = x := ⟨_, rfl⟩
            rw [hx] at p0
            have HXX := Lib.hid hx
            clear hx
            by_cases q : x = z
            · have HQ : Hid (woF (U.take (k2 + 1)) [z] = woF (U.take k2) [z]) := Lib.hid (by
                rw [List.take_succ_eq_append_getElem hkU, HXX.out]
                unfold woF
                rw [List.filter_append]
                simp [q])
              subst q
              go_wp2
              go_roundg (nU - (k2 + 1))
              case rel => exact ⟨k2 + 1, _, rfl, rfl, by omega, by simp, Lib.hid ⟨by rw [HQ.out]; exact HX.out.1, HX.out.2⟩⟩
              case measure => omega
            · obtain ⟨G, hG⟩ : ∃ G, woF (U.take k2) [z] = G := ⟨_, rfl⟩
              have hGl : G.length ≤ k2 := by
                rw [← hG]
                have := woF_len (U.take k2) [z]
                rw [List.length_take] at this
                omega
              have HQ : Hid (woF (U.take (k2 + 1)) [z] = G ++ [x]) := Lib.hid (by
                rw [List.take_succ_eq_append_getElem hkU, HXX.out, ← hG]
                unfold woF
                rw [List.filter_append]
                simp [q])
              have q1 : (x == z) = false := by simpa using q
              have q2 : (z == x) = false := by simpa using (fun y : z = x => q y.symm)
              rw [hG] at HX
              obtain ⟨M, hM⟩ : ∃ M, G.length = M := ⟨_, rfl⟩
              rw [hM] at HX hGl
              have HM := Lib.hid hM
              clear q hG hM
              go_wp2_with (first
                | (at_builtin; refine wpList_push rfl (.tmp 60) (.tmp 65) 25 rfl w5.heap.size 9 i0 (.string ⟨#[]⟩) 1 16 Try.underlying25 hi hz0 hz1 hz2 rfl (by decide) u M (strC G) rfl HX.out.1 [.string ⟨x.toArray⟩] rfl rfl (by simp [Value.oneCell']) (by unfold maxLen; omega) (by omega) (by omega) ?_; intro v' w8 hown8 f8 hk8; have HO8 := Lib.hid (And.intro hown8 f8); clear hown8 f8 hk8)
                | fail)
              have hown := HX.out.1.lt
              have fw8 : Fr Nil w5 w8 := Fr.trans (S := Nil) HX.out.2 HO8.out.2 (fun q hq hk2 => by have := (hown q hk2).1; omega)
              go_roundg (nU - (k2 + 1))
              case rel => exact ⟨k2 + 1, _, rfl, rfl, by omega, by simp, Lib.hid ⟨by rw [HQ.out, strC_snoc, List.length_append, HM.out]; exact HO8.out.1, fw8⟩⟩
              case measure => omega
          · have i1 : ¬ (k2 : Int) < (nU : Int) := by omega
            obtain rfl : nU = k2 := by omega
            have HW : Hid (RowS (fun b => b < w5.heap.size) wr u Z ∧ Fr Nil w5 wr) := Lib.hid (by
              have h := HX.out
              rw [List.take_of_length_le (by rw [HE.out.2.2.2.2.2.2.1]; exact Nat.le_refl _), HE.out.2.2.2.2.2.1] at h
              exact ⟨owns_row h.1, h.2⟩)
            obtain ⟨ua, uc, eu⟩ := RowC.shape HW.out.1
            rw [HE.out.2.2.2.2.2.2.2] at eu
            subst eu
            clear HX
            go_wp2_with fail
            refine (texts_same (RowS.fr H4.out.1 (H5.out.2.comp HW.out.2) (fun _ q => q.elim)) HW.out.1).mono ?_
            rintro e w6 ⟨rfl, f6⟩
            have H6 := Lib.hid f6
            clear f6
            go_wp2_with fail
            refine (texts_same (RowS.fr H5.out.1 (HW.out.2.comp H6.out) (fun _ q => q.elim)) (RowS.fr HW.out.1 H6.out (fun _ q => q.elim))).mono ?_
            rintro e w7 ⟨rfl, f7⟩
            have H7 := Lib.hid (H6.out.comp f7)
            have b7 := (HW.out.2.comp H7.out).blk HB5.out (fun q => q)
            have x0 := b7.cell 0
            have x1 := b7.cell 1
            have x2 := b7.cell 2
            have x3 := b7.cell 3
            have x4 := b7.cell 4
            have x5 := b7.cell 5
            have x6 := b7.cell 6
            have x7 := b7.cell 7
            simp at x0 x1 x2 x3 x4 x5 x6 x7
            have l7 := b7.lt
            clear f7 b7
            go_wp2_with fail
            have hf8 : Fr Nil w7 (w7.alloc (.cells #[.string ⟨z.toArray⟩] 9)) := by (repeat (first | (with_reducible exact Fr.refl _ _) | (with_reducible assumption) | (with_reducible exact Fr.of_nil (by assumption)) | (with_reducible refine Fr.drew ?_) | (with_reducible refine Fr.drewN ?_ _) | (with_reducible refine Fr.alloc ?_ _) | (with_reducible refine Fr.set ?_ _ _ (by first | (intros; omega) | (simp; done) | (simp; omega))) | (with_reducible refine Fr.via ?_ (by assumption)) | (with_reducible refine Fr.comp ?_ (by assumption))))
            have hb8 := body_row (U := Z) (RowS.single (x := z) (X := fun _ => False) (Blk.new w7 #[.string ⟨z.toArray⟩] 9) (fun q => q)) (HE.out.1.fr ((HV5.out.comp (HW.out.2.comp H7.out)).comp hf8) (fun _ q => q.elim)) HE.out.2.1 HE.out.2.2.2.1 (by rw [uniq_free HE.out.2.2.1, HE.out.2.2.2.2.1, HE.out.2.2.2.2.2.1]) HE.out.2.2.2.2.2.2.2
            refine hb8.mono ?_
            rintro r w8 ⟨ja, jc, rfl, r8, f8⟩
            have H8 := Lib.hid (And.intro r8 (H7.out.comp (hf8.comp f8)))
            clear r8 f8 hb8 hf8 x0 x1 x2 x3 x4 x5 x6 x7
            go_wp2_with fail
            refine (texts_same H8.out.1 (RowS.fr HW.out.1 H8.out.2 (fun _ q => q.elim))).mono ?_
            rintro e w9 ⟨rfl, f9⟩
            have H9 := Lib.hid (HF.out.comp (HV5.out.comp (HW.out.2.comp (H8.out.2.comp f9))))
            clear f9
            go_wp2
            go_roundg (nb - (i + 1))
            case rel => exact ⟨i + 1, rfl, by omega, by simp, Lib.hid H9.out⟩
            case measure => omega
      · have j1 : ¬ (i : Int) < (nb : Int) := by omega
        have HF2 := Lib.hid (HB.out.2.2.comp HF.out)
        go_wp2
        go_ret
        exact ⟨rfl, HF2.out⟩
  · have c1 : (3000 : Int) < (s.size : Int) := by omega
    go_enter Try.func6, Try.ntmps6
    go_wp2_with fail
    refine (awake_any w).mono ?_
    rintro e w1 ⟨rfl, f1⟩
    have HF := Lib.hid f1
    clear f1
    go_wp2
    go_ret
    exact ⟨rfl, HF.out⟩
end Go.Proofs.Ythpenpgcacikaaa
