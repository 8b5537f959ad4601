/-
  The law VarsJoin, walked (layer 12). Conditions: none but the arguments' forms.
-/
import Derived.Test.YthpenpgcacikaaaVar17
import Derived.Deep.RegionHeld3
namespace Go.Proofs.Ythpenpgcacikaaa
set_option linter.unusedSimpArgs false
set_option linter.unusedVariables false
open Go.RowKit

theorem app_ok {x y : TE} (hx : okE x) (hy : okE y) : okE (.mk 4 [] false 0 [] [x, y] [] []) := ⟨Nat.zero_le _, fun z hz => by simp at hz, ⟨hx, hy, trivial⟩, trivial, trivial⟩
theorem app_vs {x y : TE} (hx : vsE x) (hy : vsE y) : vsE (.mk 4 [] false 0 [] [x, y] [] []) := ⟨.inr (.inr (.inr ⟨by omega, by omega, by omega, rfl, rfl⟩)), ⟨hx, hy, trivial⟩, trivial, trivial⟩
theorem app_wt {x y : TE} : wtE (.mk 4 [] false 0 [] [x, y] [] []) = wtE x + wtE y := by simp [wtE, wtK, wtB, wtA]
theorem app_free {x y : TE} (hx : vsE x) (hy : vsE y) : uniq (occE (.mk 4 [] false 0 [] [x, y] [] []) []) = joinF (freeE x) (freeE y) := by
  rw [uniq_free (app_vs hx hy)]
  have e1 : freeE (.mk 4 [] false 0 [] [x, y] [] []) = woF (woF (joinF (joinF [] (freeE x)) (freeE y)) []) [] := by
    rw [freeE, if_neg (by decide)]
    simp only [freeB, freeK, freeA, nmB, List.map_nil]
  rw [e1, woF_nil, woF_nil]
  conv => lhs; rw [← uniq_free hx, joinF_uniq, ← uniq_eq, uniq_free hx]
/-- An application of one expression to another, as a law makes it. -/
theorem app_at {X : Nat → Prop} {w : World} {b : Nat} {c1 c2 : List Value} {x y : TE} {t : TypeId} (hb : Blk w b (c1 ++ c2).toArray t) (h1 : EAt X w c1 x) (h2 : EAt X w c2 y) (hX : ¬ X b) :
    EAt X w [.int .i64 4, .string ⟨#[]⟩, .bool false, .int .u64 0, .slice none 0 0, .slice (some ⟨b, 0, none⟩) 2 2, .slice none 0 0, .slice none 0 0] (.mk 4 [] false 0 [] [x, y] [] []) :=
  EAt.rows (kids := [x, y]) (alts := []) (binds := []) (params := []) (ac := fun _ => []) (bc := fun _ => []) 4 [] RowC.nil (RowC.two hb h1.len h2.len hX) (fun i hi => by
    have e : i = 0 ∨ i = 1 := by simp at hi; omega
    rcases e with rfl | rfl
    · exact h1
    · exact h2) RowC.nil (fun i hi => absurd hi (Nat.not_lt_zero i)) RowC.nil (fun i hi => absurd hi (Nat.not_lt_zero i))
theorem RowS.src {X : Nat → Prop} {w : World} {a : Option Addr} {n cap : Nat} {l : List (List UInt8)} (h : RowS X w (.slice a n cap) l) (hn : l.length = n) : Src w a n 1 (strC l) := by
  rcases Nat.eq_zero_or_pos l.length with q | q
  · rw [List.length_eq_zero_iff] at q
    subst q
    subst hn
    cases a with
    | none => exact .inl ⟨rfl, rfl, rfl⟩
    | some ad => exact .inr ⟨ad, rfl, rfl, fun j u hj => by simp [strC] at hj⟩
  · obtain ⟨b, off, rfl, _, _⟩ := h.cell 0 q
    refine .inr ⟨_, rfl, by simp [strC, hn], fun j u hj => ?_⟩
    have hj2 : j < l.length := by
      have := (List.getElem?_eq_some_iff.1 hj).1
      simpa [strC] using this
    obtain ⟨b', off', e, _, p⟩ := h.cell j hj2
    cases e
    rw [add_at, p]
    simp [strC, hj2] at hj
    rw [← hj]
/-- A row that an own row's growth leaves as it was. -/
theorem RowS.beside {w w' : World} {v u u' : Value} {l : List (List UInt8)} (h : RowS (fun b => u.ownBlock = some b) w v l) (f : Fr (fun b => u.ownBlock = some b) w w') (hk : ∀ b, u'.ownBlock = some b → u.ownBlock = some b ∨ w.heap.size ≤ b) : RowS (fun b => u'.ownBlock = some b) w' v l := by
  have h1 : RowS (fun b => u.ownBlock = some b ∨ u'.ownBlock = some b) w v l := RowC.mono h (by decide) (fun b hb q => by
    rcases q with q | q
    · exact q
    · rcases hk b q with z | z
      · exact z
      · omega)
  exact RowC.mono (RowS.fr h1 f (fun b q => .inl q)) (by decide) (fun b _ q => .inr q)
set_option maxRecDepth 100000 in
set_option maxHeartbeats 8000000 in
theorem join12_any (s t : ByteArray) (w : World) :
    Calls Try.prog 3 #[.string s, .string t] w fun r w' => r = .returned (.bool true) ∧ Fr Nil w w' := by
  obtain ⟨i0, hi, hz0, hz1, hz2⟩ := info_parts infoS
  by_cases hs : s.size ≤ 2000
  · by_cases ht : t.size ≤ 2000
    · have c1 : ¬ (2000 : Int) < (s.size : Int) := by omega
      have c2 : ¬ (2000 : Int) < (t.size : Int) := by omega
      have d1 : decide ((2000 : Int) < (s.size : Int)) = false := decide_eq_false c1
      have d2 : decide ((2000 : Int) < (t.size : Int)) = false := decide_eq_false c2
      have hS := parse_src s.data.toList (by rw [size_of]; unfold maxLen; omega)
      have hT := parse_src t.data.toList (by rw [size_of]; unfold maxLen; omega)
      obtain ⟨bs, hbs⟩ : ∃ bs, (parseF s.data.toList).1.binds = bs := ⟨_, rfl⟩
      obtain ⟨bt, hbt⟩ : ∃ bs, (parseF t.data.toList).1.binds = bs := ⟨_, rfl⟩
      rw [hbs] at hS
      rw [hbt] at hT
      have HS := Lib.hid (And.intro hS (And.intro hbs (And.intro hT hbt)))
      have hsz : s.size ≤ 1000000 := by omega
      have htz : t.size ≤ 1000000 := by omega
      clear hS hbs hT hbt
      go_enter Try.func3, Try.ntmps3
      go_wp2_with fail
      refine (awake_any w).mono ?_
      rintro e w1 ⟨rfl, f1⟩
      have HF1 := Lib.hid f1
      clear f1
      go_wp2_with fail
      refine (told_any s w1 hsz).mono ?_
      rw [HS.out.2.1]
      rintro e w2 ⟨v, rfl, hb, f2⟩
      obtain ⟨ba, bc, rfl⟩ := hb.shape
      obtain ⟨nb, hnb⟩ : ∃ nb, bs.length = nb := ⟨_, rfl⟩
      rw [hnb] at hb ⊢
      have HB := Lib.hid (And.intro hb (And.intro hnb (HF1.out.comp f2)))
      clear hb hnb f2
      go_wp2_with fail
      refine (told_any t w2 htz).mono ?_
      rw [HS.out.2.2.2]
      rintro e w3 ⟨v, rfl, hb, f3⟩
      obtain ⟨ta, tc, rfl⟩ := hb.shape
      obtain ⟨nt, hnt⟩ : ∃ nb, bt.length = nb := ⟨_, rfl⟩
      rw [hnt] at hb ⊢
      have HT := Lib.hid (And.intro hb (And.intro hnt (And.intro (HB.out.2.2.comp f3) (HB.out.1.fr f3 (fun _ q => q.elim)))))
      clear hb hnt f3
      by_cases z1 : nb = 0
      · have e1 : ((nb : Int) == 0) = true := by simp [z1]
        go_wp2
        go_ret
        exact ⟨rfl, HT.out.2.2.1⟩
      by_cases z2 : nt = 0
      · have e1 : ((nb : Int) == 0) = false := beq_false_of_ne (by omega)
        have e2 : ((nt : Int) == 0) = true := by simp [z2]
        go_wp2
        go_ret
        exact ⟨rfl, HT.out.2.2.1⟩
      have e1 : ((nb : Int) == 0) = false := beq_false_of_ne (by omega)
      have e2 : ((nt : Int) == 0) = false := beq_false_of_ne (by omega)
      have i1 : (0 : Int) < (nb : Int) := by omega
      have i2 : (0 : Int) < (nt : Int) := by omega
      obtain ⟨bx, ox, pa, pn, pc, cx, rfl, hlx, hfx, _, hEx, _, hcx⟩ := HT.out.2.2.2.at (i := 0) (by rw [HB.out.2.1]; omega)
      obtain ⟨by_, oy, pa2, pn2, pc2, cy, rfl, hly, hfy, _, hEy, _, hcy⟩ := HT.out.1.at (i := 0) (by rw [HT.out.2.1]; omega)
      have hox := HS.out.1.ok _ (List.getElem_mem (l := bs) (n := 0) (by rw [HB.out.2.1]; omega))
      have hoy := HS.out.2.2.1.ok _ (List.getElem_mem (l := bt) (n := 0) (by rw [HT.out.2.1]; omega))
      obtain ⟨x, hx⟩ : ∃ x, (bs[0]'(by rw [HB.out.2.1]; omega)).body = x := ⟨_, rfl⟩
      obtain ⟨y, hy⟩ : ∃ x, (bt[0]'(by rw [HT.out.2.1]; omega)).body = x := ⟨_, rfl⟩
      rw [hx] at hEx hox
      rw [hy] at hEy hoy
      obtain ⟨kx, nmx, flx, bix, a0x, n0x, c0x, a1x, n1x, c1x, a2x, n2x, c2x, a3x, n3x, c3x, rfl⟩ := hfx
      obtain ⟨ky, nmy, fly, biy, a0y, n0y, c0y, a1y, n1y, c1y, a2y, n2y, c2y, a3y, n3y, c3y, rfl⟩ := hfy
      have hK : ∀ w', Fr Nil w3 w' → (w'.cell? ⟨bx, ox + 2, none⟩ = some (.int .i64 (kx : Int)) ∧ w'.cell? ⟨bx, ox + 2 + 1, none⟩ = some (.string nmx) ∧ w'.cell? ⟨bx, ox + 2 + 2, none⟩ = some (.bool flx) ∧ w'.cell? ⟨bx, ox + 2 + 3, none⟩ = some (.int .u64 (bix : Int)) ∧ w'.cell? ⟨bx, ox + 2 + 4, none⟩ = some (.slice a0x n0x c0x) ∧ w'.cell? ⟨bx, ox + 2 + 5, none⟩ = some (.slice a1x n1x c1x) ∧ w'.cell? ⟨bx, ox + 2 + 6, none⟩ = some (.slice a2x n2x c2x) ∧ w'.cell? ⟨bx, ox + 2 + 7, none⟩ = some (.slice a3x n3x c3x)) ∧ (w'.cell? ⟨by_, oy + 2, none⟩ = some (.int .i64 (ky : Int)) ∧ w'.cell? ⟨by_, oy + 2 + 1, none⟩ = some (.string nmy) ∧ w'.cell? ⟨by_, oy + 2 + 2, none⟩ = some (.bool fly) ∧ w'.cell? ⟨by_, oy + 2 + 3, none⟩ = some (.int .u64 (biy : Int)) ∧ w'.cell? ⟨by_, oy + 2 + 4, none⟩ = some (.slice a0y n0y c0y) ∧ w'.cell? ⟨by_, oy + 2 + 5, none⟩ = some (.slice a1y n1y c1y) ∧ w'.cell? ⟨by_, oy + 2 + 6, none⟩ = some (.slice a2y n2y c2y) ∧ w'.cell? ⟨by_, oy + 2 + 7, none⟩ = some (.slice a3y n3y c3y)) := fun w' f => by
        obtain ⟨_, _, h⟩ := hcx w' f
        obtain ⟨_, _, h2⟩ := hcy w' f
        simp only [Nat.zero_mul, Nat.add_zero] at h h2
        exact ⟨⟨h 0 _ rfl, h 1 _ rfl, h 2 _ rfl, h 3 _ rfl, h 4 _ rfl, h 5 _ rfl, h 6 _ rfl, h 7 _ rfl⟩, ⟨h2 0 _ rfl, h2 1 _ rfl, h2 2 _ rfl, h2 3 _ rfl, h2 4 _ rfl, h2 5 _ rfl, h2 6 _ rfl, h2 7 _ rfl⟩⟩
      have HK := Lib.hid hK
      have HE := Lib.hid (And.intro hEx (And.intro hEy (And.intro (And.intro hox.1 (And.intro hox.2.1 (show wtE x ≤ 4096 by have := hox.2.2.1; omega))) (And.intro hoy.1 (And.intro hoy.2.1 (show wtE y ≤ 4096 by have := hoy.2.2.1; omega))))))
      clear hEx hEy hox hoy hK hcx hcy hx hy
      go_upto_region 8 with fail
      obtain ⟨⟨p0, p1, p2, p3, p4, p5, p6, p7⟩, ⟨q0, q1, q2, q3, q4, q5, q6, q7⟩⟩ := HK.out w3 (Fr.refl _ _)
      go_cut [7, 8] (fun xv yv wx => ∃ xb yb, xv = .pointer (some ⟨xb, 0, none⟩) ∧ yv = .pointer (some ⟨yb, 0, none⟩) ∧ Hid (Blk wx xb #[.int .i64 (kx : Int), .string nmx, .bool flx, .int .u64 (bix : Int), .slice a0x n0x c0x, .slice a1x n1x c1x, .slice a2x n2x c2x, .slice a3x n3x c3x] 32 ∧ Blk wx yb #[.int .i64 (ky : Int), .string nmy, .bool fly, .int .u64 (biy : Int), .slice a0y n0y c0y, .slice a1y n1y c1y, .slice a2y n2y c2y, .slice a3y n3y c3y] 32 ∧ Fr Nil w3 wx))
      case first =>
        go_region
        all_goals
          go_wp2_with fail
          go_meet
          case rel => exact ⟨_, _, rfl, rfl, Lib.hid ⟨by (unfold Blk; simp (disch := first | omega | (simp; done) | (simp; omega)) only [hp_drew, hp_drewN, hp_alloc, hp_other, hp_same, hp_new, upd_cells, Option.map_some]), by (unfold Blk; simp (disch := first | omega | (simp; done) | (simp; omega)) only [hp_drew, hp_drewN, hp_alloc, hp_other, hp_same, hp_new, upd_cells, Option.map_some]), by (repeat (first | (with_reducible exact Fr.refl _ _) | (with_reducible assumption) | (with_reducible exact Fr.of_nil (by assumption)) | (with_reducible refine Fr.drew ?_) | (with_reducible refine Fr.drewN ?_ _) | (with_reducible refine Fr.alloc ?_ _) | (with_reducible refine Fr.set ?_ _ _ (by first | (intros; omega) | (simp; done) | (simp; omega))) | (with_reducible refine Fr.via ?_ (by assumption)) | (with_reducible refine Fr.comp ?_ (by assumption))))⟩⟩
      case rest =>
        obtain ⟨xb, yb, rfl, rfl, HC⟩ := hcut
        clear p0 p1 p2 p3 p4 p5 p6 p7 q0 q1 q2 q3 q4 q5 q6 q7
        have lx := HC.out.1.lt
        have ly := HC.out.2.1.lt
        have x0 := HC.out.1.cell 0
        have x1 := HC.out.1.cell 1
        have x2 := HC.out.1.cell 2
        have x3 := HC.out.1.cell 3
        have x4 := HC.out.1.cell 4
        have x5 := HC.out.1.cell 5
        have x6 := HC.out.1.cell 6
        have x7 := HC.out.1.cell 7
        simp at x0 x1 x2 x3 x4 x5 x6 x7
        obtain ⟨U, hU⟩ : ∃ U, freeE x = U := ⟨_, rfl⟩
        obtain ⟨V, hV⟩ : ∃ U, freeE y = U := ⟨_, rfl⟩
        obtain ⟨M, hM⟩ : ∃ M, U.length = M := ⟨_, rfl⟩
        obtain ⟨n, hn⟩ : ∃ M, V.length = M := ⟨_, rfl⟩
        have hM9 : M ≤ 4096 := by have := freeE_len x; have := HE.out.2.2.1.2.2; rw [hU] at *; omega
        have hn9 : n ≤ 4096 := by have := freeE_len y; have := HE.out.2.2.2.2.2; rw [hV] at *; omega
        have HU := Lib.hid (And.intro hU (And.intro hV (And.intro hM hn)))
        clear hU hV hM hn
        go_wp2_with fail
        refine (free_row (HE.out.1.fr (S := Nil) (w' := wc.alloc (.cells #[] 9)) (HC.out.2.2.comp (by (repeat (first | (with_reducible exact Fr.refl _ _) | (with_reducible assumption) | (with_reducible exact Fr.of_nil (by assumption)) | (with_reducible refine Fr.drew ?_) | (with_reducible refine Fr.drewN ?_ _) | (with_reducible refine Fr.alloc ?_ _) | (with_reducible refine Fr.set ?_ _ _ (by first | (intros; omega) | (simp; done) | (simp; omega))) | (with_reducible refine Fr.via ?_ (by assumption)) | (with_reducible refine Fr.comp ?_ (by assumption)))))) (fun _ q => q.elim)) HE.out.2.2.1.1 HE.out.2.2.1.2.2 (by rw [uniq_free HE.out.2.2.1.2.1, HU.out.1]) HU.out.2.2.1).mono ?_
        rintro r w4 ⟨va, vc, rfl, r1, f4⟩
        have H4 := Lib.hid (And.intro (owns_fr (owns_empty wc 9) f4) (And.intro (RowS.src r1 HU.out.2.2.1) f4))
        have hs4 : wc.heap.size + 1 ≤ w4.heap.size := by have := f4.size; simpa using this
        clear r1 f4
        go_wp2_with (first
          | (at_builtin; refine wpList_append_src rfl (.tmp 42) (.tmp 44) 25 rfl wc.heap.size 9 i0 (.string ⟨#[]⟩) 1 16 Try.underlying25 hi hz0 hz1 hz2 rfl (by decide) (.slice (some ⟨wc.heap.size, 0, none⟩) 0 0) 0 [] rfl H4.out.1 va M vc (strC U) rfl H4.out.2.1 strC_mem (by unfold maxLen; omega) (by omega) (by omega) ?_; intro u1 w5 hown1 g1 hk1; have H5 := Lib.hid (And.intro hown1 g1); clear hown1 g1 hk1; have hf5 : Fr Nil wc w5 := Fr.grown (S := Nil) (w := wc) (w1 := w4) (Fr.comp (S := Nil) (by (repeat (first | (with_reducible exact Fr.refl _ _) | (with_reducible assumption) | (with_reducible exact Fr.of_nil (by assumption)) | (with_reducible refine Fr.drew ?_) | (with_reducible refine Fr.drewN ?_ _) | (with_reducible refine Fr.alloc ?_ _) | (with_reducible refine Fr.set ?_ _ _ (by first | (intros; omega) | (simp; done) | (simp; omega))) | (with_reducible refine Fr.via ?_ (by assumption)) | (with_reducible refine Fr.comp ?_ (by assumption))))) H4.out.2.2) H5.out.2 (fun k q hk => by cases q; exact absurd hk (Nat.lt_irrefl _)); have by5 := hf5.blk HC.out.2.1 (fun q => q); have ly5 := by5.lt; have y0 := by5.cell 0; have y1 := by5.cell 1; have y2 := by5.cell 2; have y3 := by5.cell 3; have y4 := by5.cell 4; have y5 := by5.cell 5; have y6 := by5.cell 6; have y7 := by5.cell 7; simp at y0 y1 y2 y3 y4 y5 y6 y7; clear x0 x1 x2 x3 x4 x5 x6 x7 by5)
          | fail)
        have ho5 : w5.ownsRow wc.heap.size 9 1 u1 U.length (strC U) := by
          have h := H5.out.1
          rw [Nat.zero_add, List.nil_append] at h
          rw [HU.out.2.2.1]
          exact h
        have HO5 := Lib.hid (And.intro ho5 hf5)
        clear ho5 hf5
        refine (free_any (HE.out.2.1.fr (HC.out.2.2.comp HO5.out.2) (fun _ q => q.elim)) HE.out.2.2.2.1 (by have := HE.out.2.2.2.2.2; omega)).mono ?_
        rintro r w6 ⟨v6, rfl, own6, f6⟩
        rw [uniq_free HE.out.2.2.2.2.1, HU.out.2.1] at own6
        obtain ⟨ea, ec, rfl⟩ := owns_shape own6
        have r6 : RowS (fun b => u1.ownBlock = some b) w6 (.slice ea n ec) V := by
          have h := owns_row own6
          rw [HU.out.2.2.2] at h
          exact RowC.mono h (by decide) (fun b _ q => (HO5.out.1.lt b q).2)
        have H6 := Lib.hid (And.intro (owns_fr HO5.out.1 f6) (And.intro r6 (HO5.out.2.comp f6)))
        rw [HU.out.2.2.2]
        clear own6 r6 f6 y0 y1 y2 y3 y4 y5 y6 y7
        go_wp2_with fail
        go_loopg [9, 11] n (fun g vo iv wr => ∃ (k : Nat) (u : Value), u = vo ∧ g = n - k ∧ k ≤ n ∧ iv = .int .i64 (k : Int) ∧ Hid (wr.ownsRow wc.heap.size 9 1 u (joinF U (V.take k)).length (strC (joinF U (V.take k))) ∧ RowS (fun b => u.ownBlock = some b) wr (.slice ea n ec) V ∧ Fr Nil wc wr))
        case atStart => exact ⟨0, _, rfl, rfl, by omega, rfl, Lib.hid ⟨by simpa [joinF] using H6.out.1, H6.out.2.1, H6.out.2.2⟩⟩
        case round =>
          obtain ⟨k, u, rfl, rfl, hk, rfl, HL⟩ := hrel
          have j0 : (0 : Int) ≤ (k : Int) := by omega
          have hszl := HL.out.2.2.size
          by_cases hlt : k < n
          · have hkL : k < V.length := by rw [HU.out.2.2.2]; exact hlt
            have wk : IntKind.i64.wrap ((k : Int) + 1) = (k : Int) + 1 := by rw [IntKind.wrap_i64]; omega
            obtain ⟨b, off, rfl, _, p0⟩ := HL.out.2.1.cell k hkL
            obtain ⟨x, ex⟩ : ∃ x, V[k] = x := ⟨_, rfl⟩
            rw [ex] at p0
            have j1 : (k : Int) < (n : Int) := by omega
            have HEX := Lib.hid ex
            have hlen := joinF_len (V.take k) U
            obtain ⟨F, hF⟩ : ∃ F, joinF U (V.take k) = F := ⟨_, rfl⟩
            have hsn := joinF_snoc U (V.take k) x
            rw [← HEX.out, ← List.take_succ_eq_append_getElem hkL, hF, HEX.out] at hsn
            rw [hF] at HL hlen
            rw [List.length_take, HU.out.2.2.1] at hlen
            have hc := in_any x (owns_row HL.out.1)
            obtain ⟨G, hG⟩ : ∃ M, F.length = M := ⟨_, rfl⟩
            rw [hG] at HL hlen
            have HG := Lib.hid hG
            obtain ⟨ua, uc, rfl⟩ := owns_shape HL.out.1
            have hG9 : G ≤ M + k := by omega
            clear ex hF hlen hG
            by_cases q : x ∈ F
            · rw [decide_eq_true q] at hc
              rw [if_pos q] at hsn
              have HCC := Lib.hid hc
              have HQ := Lib.hid hsn
              clear q hsn hc
              go_wp2_with fail
              refine HCC.out.mono ?_
              rintro e w7 ⟨rfl, f7⟩
              go_wp2
              go_roundg (n - (k + 1))
              case rel => exact ⟨k + 1, _, rfl, rfl, by omega, by simp, Lib.hid ⟨by rw [HQ.out, HG.out]; exact owns_fr HL.out.1 f7, RowS.fr HL.out.2.1 f7 (fun _ q => q.elim), HL.out.2.2.comp f7⟩⟩
              case measure => omega
            · rw [decide_eq_false q] at hc
              rw [if_neg q] at hsn
              have HCC := Lib.hid hc
              have HQ := Lib.hid hsn
              clear q hsn hc
              go_wp2_with fail
              refine HCC.out.mono ?_
              rintro e w7 ⟨rfl, f7⟩
              have p2 := f7.cell p0 (fun q => q)
              have hsz7 := f7.size
              have H7 := Lib.hid (And.intro (owns_fr HL.out.1 f7) (And.intro (RowS.fr HL.out.2.1 f7 (fun _ q => q.elim)) f7))
              clear f7 p0
              go_wp2_with (first
                | (at_builtin; refine wpList_push rfl (.tmp 61) (.tmp 66) 25 rfl wc.heap.size 9 i0 (.string ⟨#[]⟩) 1 16 Try.underlying25 hi hz0 hz1 hz2 rfl (by decide) _ G (strC F) rfl H7.out.1 [.string ⟨x.toArray⟩] rfl rfl (by simp [Value.oneCell']) (by unfold maxLen; omega) (by omega) (by omega) ?_; intro v' w8 hown8 f8 hk8; have HO8 := Lib.hid (And.intro hown8 (And.intro f8 hk8)); clear hown8 f8 hk8)
                | fail)
              have hown := H7.out.1.lt
              have fw8 : Fr Nil wc w8 := Fr.trans (S := Nil) (HL.out.2.2.comp H7.out.2.2) HO8.out.2.1 (fun q hq hk2 => by have := (hown q hk2).1; omega)
              go_roundg (n - (k + 1))
              case rel => exact ⟨k + 1, _, rfl, rfl, by omega, by simp, Lib.hid ⟨by rw [HQ.out, strC_snoc, List.length_append, HG.out]; exact HO8.out.1, RowS.beside H7.out.2.1 HO8.out.2.1 HO8.out.2.2, fw8⟩⟩
              case measure => omega
          · have j1 : ¬ (k : Int) < (n : Int) := by omega
            obtain rfl : n = k := by omega
            have HF : Hid (wr.ownsRow wc.heap.size 9 1 u (joinF U V).length (strC (joinF U V)) ∧ Fr Nil wc wr) := Lib.hid (by
              have h := HL.out
              rw [List.take_of_length_le (by rw [HU.out.2.2.2]; exact Nat.le_refl _)] at h
              exact ⟨h.1, h.2.2⟩)
            obtain ⟨ua, uc, rfl⟩ := owns_shape HF.out.1
            have bx9 := HF.out.2.blk HC.out.1 (fun q => q)
            have by9 := HF.out.2.blk HC.out.2.1 (fun q => q)
            have lx9 := bx9.lt
            have ly9 := by9.lt
            have x0 := bx9.cell 0
            have x1 := bx9.cell 1
            have x2 := bx9.cell 2
            have x3 := bx9.cell 3
            have x4 := bx9.cell 4
            have x5 := bx9.cell 5
            have x6 := bx9.cell 6
            have x7 := bx9.cell 7
            simp at x0 x1 x2 x3 x4 x5 x6 x7
            have y0 := by9.cell 0
            have y1 := by9.cell 1
            have y2 := by9.cell 2
            have y3 := by9.cell 3
            have y4 := by9.cell 4
            have y5 := by9.cell 5
            have y6 := by9.cell 6
            have y7 := by9.cell 7
            simp at y0 y1 y2 y3 y4 y5 y6 y7
            clear bx9 by9
            go_wp2_with fail
            have happ := app_at (t := 32) (X := fun _ => False) (Blk.new wr ([.int .i64 (kx : Int), .string nmx, .bool flx, .int .u64 (bix : Int), .slice a0x n0x c0x, .slice a1x n1x c1x, .slice a2x n2x c2x, .slice a3x n3x c3x] ++ [.int .i64 (ky : Int), .string nmy, .bool fly, .int .u64 (biy : Int), .slice a0y n0y c0y, .slice a1y n1y c1y, .slice a2y n2y c2y, .slice a3y n3y c3y] : List Value).toArray 32) (HE.out.1.fr (S := Nil) (w' := wr.alloc (.cells ([.int .i64 (kx : Int), .string nmx, .bool flx, .int .u64 (bix : Int), .slice a0x n0x c0x, .slice a1x n1x c1x, .slice a2x n2x c2x, .slice a3x n3x c3x] ++ [.int .i64 (ky : Int), .string nmy, .bool fly, .int .u64 (biy : Int), .slice a0y n0y c0y, .slice a1y n1y c1y, .slice a2y n2y c2y, .slice a3y n3y c3y] : List Value).toArray 32)) ((HC.out.2.2.comp HF.out.2).comp (by (repeat (first | (with_reducible exact Fr.refl _ _) | (with_reducible assumption) | (with_reducible exact Fr.of_nil (by assumption)) | (with_reducible refine Fr.drew ?_) | (with_reducible refine Fr.drewN ?_ _) | (with_reducible refine Fr.alloc ?_ _) | (with_reducible refine Fr.set ?_ _ _ (by first | (intros; omega) | (simp; done) | (simp; omega))) | (with_reducible refine Fr.via ?_ (by assumption)) | (with_reducible refine Fr.comp ?_ (by assumption)))))) (fun _ q => q.elim)) (HE.out.2.1.fr (S := Nil) ((HC.out.2.2.comp HF.out.2).comp (by (repeat (first | (with_reducible exact Fr.refl _ _) | (with_reducible assumption) | (with_reducible exact Fr.of_nil (by assumption)) | (with_reducible refine Fr.drew ?_) | (with_reducible refine Fr.drewN ?_ _) | (with_reducible refine Fr.alloc ?_ _) | (with_reducible refine Fr.set ?_ _ _ (by first | (intros; omega) | (simp; done) | (simp; omega))) | (with_reducible refine Fr.via ?_ (by assumption)) | (with_reducible refine Fr.comp ?_ (by assumption)))))) (fun _ q => q.elim)) (fun q => q)
            have hfr := free_any happ (app_ok HE.out.2.2.1.1 HE.out.2.2.2.1) (by rw [app_wt]; have := HE.out.2.2.1.2.2; have := HE.out.2.2.2.2.2; omega)
            rw [app_free HE.out.2.2.1.2.1 HE.out.2.2.2.2.1, HU.out.1, HU.out.2.1] at hfr
            refine hfr.mono ?_
            rintro r w9 ⟨v9, rfl, own9, f9⟩
            obtain ⟨oa, oc, rfl⟩ := owns_shape own9
            have H9 := Lib.hid (And.intro (owns_row own9) (And.intro (owns_row (owns_fr (owns_fr HF.out.1 (w' := wr.alloc (.cells ([.int .i64 (kx : Int), .string nmx, .bool flx, .int .u64 (bix : Int), .slice a0x n0x c0x, .slice a1x n1x c1x, .slice a2x n2x c2x, .slice a3x n3x c3x] ++ [.int .i64 (ky : Int), .string nmy, .bool fly, .int .u64 (biy : Int), .slice a0y n0y c0y, .slice a1y n1y c1y, .slice a2y n2y c2y, .slice a3y n3y c3y] : List Value).toArray 32)) (by (repeat (first | (with_reducible exact Fr.refl _ _) | (with_reducible assumption) | (with_reducible exact Fr.of_nil (by assumption)) | (with_reducible refine Fr.drew ?_) | (with_reducible refine Fr.drewN ?_ _) | (with_reducible refine Fr.alloc ?_ _) | (with_reducible refine Fr.set ?_ _ _ (by first | (intros; omega) | (simp; done) | (simp; omega))) | (with_reducible refine Fr.via ?_ (by assumption)) | (with_reducible refine Fr.comp ?_ (by assumption)))))) f9)) (HF.out.2.comp (Fr.comp (S := Nil) (by (repeat (first | (with_reducible exact Fr.refl _ _) | (with_reducible assumption) | (with_reducible exact Fr.of_nil (by assumption)) | (with_reducible refine Fr.drew ?_) | (with_reducible refine Fr.drewN ?_ _) | (with_reducible refine Fr.alloc ?_ _) | (with_reducible refine Fr.set ?_ _ _ (by first | (intros; omega) | (simp; done) | (simp; omega))) | (with_reducible refine Fr.via ?_ (by assumption)) | (with_reducible refine Fr.comp ?_ (by assumption))))) f9))))
            clear own9 f9 hfr happ
            go_wp2_with fail
            refine (texts_same H9.out.1 H9.out.2.1).mono ?_
            rintro e w10 ⟨rfl, f10⟩
            have HZ := Lib.hid (HT.out.2.2.1.comp (HC.out.2.2.comp (H9.out.2.2.comp f10)))
            clear f10
            go_wp2
            go_ret
            exact ⟨rfl, HZ.out⟩
    · have c1 : ¬ (2000 : Int) < (s.size : Int) := by omega
      have c2 : (2000 : Int) < (t.size : Int) := by omega
      have d1 : decide ((2000 : Int) < (s.size : Int)) = false := decide_eq_false c1
      have d2 : decide ((2000 : Int) < (t.size : Int)) = true := decide_eq_true c2
      go_enter Try.func3, Try.ntmps3
      go_wp2_with fail
      refine (awake_any w).mono ?_
      rintro e w1 ⟨rfl, f1⟩
      have HF := Lib.hid f1
      clear f1
      go_wp2
      go_ret
      exact ⟨rfl, HF.out⟩
  · have c1 : (2000 : Int) < (s.size : Int) := by omega
    have d1 : decide ((2000 : Int) < (s.size : Int)) = true := decide_eq_true c1
    go_enter Try.func3, Try.ntmps3
    go_wp2_with fail
    refine (awake_any w).mono ?_
    rintro e w1 ⟨rfl, f1⟩
    have HF := Lib.hid f1
    clear f1
    go_wp2
    go_ret
    exact ⟨rfl, HF.out⟩
end Go.Proofs.Ythpenpgcacikaaa
