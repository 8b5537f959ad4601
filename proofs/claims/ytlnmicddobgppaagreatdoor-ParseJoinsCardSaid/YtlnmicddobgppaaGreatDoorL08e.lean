/-
  ParseJoins: two sources, one behind the other. Conditions: the library's variables.
-/
import Derived.Test.YtlnmicddobgppaaGreatDoorHeldBy
import Derived.Test.YtlnmicddobgppaaGreatDoorL08a
import Derived.Test.YtlnmicddobgppaaGreatDoorJoinH
import Derived.Deep.RegionHeld3
namespace Go.Proofs.YtlnmicddobgppaaGreatDoor
set_option linter.unusedSimpArgs false
set_option linter.unusedVariables false
open Go.RowKit

theorem ends_next (s : ByteArray) (k : Nat) (h : k < s.size) : endsN (s.data.toList.take (k + 1)) = endsN (s.data.toList.take k) + if s[k] = 10 then 1 else 0 := by
  rw [take_next s k h]
  unfold endsN
  rw [List.count_append]
  congr 1
  split
  · rename_i q; rw [q]; rfl
  · rename_i q; rw [List.count_cons_of_ne (fun r => q r)]; rfl
theorem ends_step {n0 n1 : Nat} (h : IntKind.i64.wrap (1 + (n0 : Int) + 1) = 1 + (n1 : Int)) (hn : n0 ≤ 5000) : Value.int IntKind.i64 (1 + (n0 : Int) + 1) = Value.int IntKind.i64 ((1 + n1 : Nat) : Int) := by
  rw [IntKind.wrap_i64] at h
  have e : (1 + (n0 : Int) + 1) = ((1 + n1 : Nat) : Int) := by omega
  rw [e]
theorem ends_le (l : List UInt8) : endsN l ≤ l.length := List.count_le_length
/-- What the two modules' rows are at the region's beginning. -/
structure JoinAt (w : World) (m n : TM) (c1 c2 d1 d2 : Nat → List Value) : Prop where
  hc1 : ∀ i (h : i < m.cons.length), c1 i = [.string ⟨m.cons[i].1.toArray⟩, .int .i64 (m.cons[i].2 : Int)]
  hc2 : ∀ i (h : i < n.cons.length), c2 i = [.string ⟨n.cons[i].1.toArray⟩, .int .i64 (n.cons[i].2 : Int)]
  hd1 : ∀ i (h : i < m.binds.length), BAt (fun _ => False) w (d1 i) m.binds[i]
  hd2 : ∀ i (h : i < n.binds.length), BAt (fun _ => False) w (d2 i) n.binds[i]
  hl1 : ∀ i, i < m.binds.length → (d1 i).length = 10
  hl2 : ∀ i, i < n.binds.length → (d2 i).length = 10
theorem join_leaf {w0 w9 wf : World} {m n : TM} {c1 c2 d1 d2 : Nat → List Value} {n1 n2 m1 m2 B : Nat} {va vb : Value} {tb : Nat} {S : Nat → Prop} (e1 : m.cons.length = n1) (e2 : n.cons.length = n2) (e3 : m.binds.length = m1) (e4 : n.binds.length = m2) (h : JoinAt w0 m n c1 c2 d1 d2)
    (hA : w9.ownsRow B 68 2 va (n1 + n2) (flatB c1 0 n1 ++ flatB c2 0 n2)) (hB : w9.ownsRow B 51 10 vb (m1 + m2) (flatB d1 0 m1 ++ flatB d2 0 m2)) (F : Fr Nil w0 w9) (f : Fr S w9 wf) (hS : ∀ k, S k → w0.heap.size ≤ k) (hSA : ∀ k, va.ownBlock = some k → ¬ S k) (hSB : ∀ k, vb.ownBlock = some k → ¬ S k)
    (hb : Blk wf tb #[va, vb] 26) : Blk wf tb #[va, vb] 26 ∧ MVal (fun _ => False) wf (.agg #[va, vb]) ⟨m.cons ++ n.cons, m.binds ++ n.binds⟩ ∧ Fr Nil w0 wf := by
  subst e1 e2 e3 e4
  have FF : Fr Nil w0 wf := F.trans f (fun k hk q => by have := hS k q; omega)
  exact ⟨hb, mval_join h.hc1 h.hc2 (fun i hi => lawB.fr (h.hd1 i hi) FF (fun _ q => q.elim)) (fun i hi => lawB.fr (h.hd2 i hi) FF (fun _ q => q.elim)) h.hl1 h.hl2 (owns_frS hA f hSA) (owns_frS hB f hSB), FF⟩
set_option maxRecDepth 100000 in
set_option maxHeartbeats 8000000 in
theorem joins8_any (s t : ByteArray) (w : World) (hW : LibW w) : Calls Tryz.prog 5 #[.string s, .string t] w fun e w' => e = .returned (.bool true) ∧ Fr Nil w w' := by
  have hav := awake8_any w hW
  have HA := Lib.hid hav
  have HW := Lib.hid hW
  clear hav hW
  by_cases hs : 1900 < s.size
  · have t1 : (1900 : Int) < (s.size : Int) := by omega
    go_enter Tryz.func5, Tryz.ntmps5
    go_wp2_with fail
    refine (HA.out).mono ?_
    rintro e w1 ⟨rfl, f1⟩
    go_wp2
    go_ret
    exact ⟨rfl, by exact frA⟩
  have t1 : ¬ (1900 : Int) < (s.size : Int) := by omega
  by_cases ht : 1900 < t.size
  · have t2 : (1900 : Int) < (t.size : Int) := by omega
    go_enter Tryz.func5, Tryz.ntmps5
    go_wp2_with fail
    refine (HA.out).mono ?_
    rintro e w1 ⟨rfl, f1⟩
    go_wp2
    go_ret
    exact ⟨rfl, by exact frA⟩
  have t2 : ¬ (1900 : Int) < (t.size : Int) := by omega
  have q10 : (⟨#[10]⟩ : ByteArray).size = 1 := rfl
  have hp1 := fun w h => qparse_any s w h (by omega)
  have hp2 := fun w h => qparse_any t w h (by omega)
  have hp3 := fun w h => qparse_any (s ++ ⟨#[10]⟩ ++ t) w h (by simp only [ByteArray.size_append, q10]; omega)
  have hlx := fun w h => lex_any t w h (by omega)
  have hJ := parse_joins s.data.toList t.data.toList (by rw [size_of, size_of]; omega)
  have e3 : (s ++ ⟨#[10]⟩ ++ t).data.toList = s.data.toList ++ 10 :: t.data.toList := by simp [ByteArray.data_append]
  rw [e3] at hp3
  have hb := parse_line8 t.data.toList
  rw [size_of] at hb
  have hf1 := parse_few8 s.data.toList
  have hf2 := parse_few8 t.data.toList
  obtain ⟨⟨M, E1, E2⟩, hM⟩ : ∃ M, parseF s.data.toList = M := ⟨_, rfl⟩
  obtain ⟨⟨M', F1, F2⟩, hM'⟩ : ∃ M, parseF t.data.toList = M := ⟨_, rfl⟩
  obtain ⟨⟨Bm, G1, G2⟩, hB⟩ : ∃ M, parseF (s.data.toList ++ 10 :: t.data.toList) = M := ⟨_, rfl⟩
  obtain ⟨⟨T, er, ln⟩, hR⟩ : ∃ R, lexF t.data.toList = R := ⟨_, rfl⟩
  rw [hM, hM', hB, hR] at hJ
  rw [hM] at hp1 hf1
  rw [hM'] at hp2 hb hf2
  rw [hB] at hp3
  rw [hR] at hlx
  simp only at hJ hp1 hp2 hp3 hlx hb hf1 hf2
  have s1 : ∀ w, (Op.stringOp .add s ⟨#[10]⟩).run Tryz.prog w = .ok (.string (s ++ ⟨#[10]⟩)) w := fun w => run_string_add_sum w _ _ (by rw [q10]; omega)
  have s2 : ∀ w, (Op.stringOp .add (s ++ ⟨#[10]⟩) t).run Tryz.prog w = .ok (.string (s ++ ⟨#[10]⟩ ++ t)) w := fun w => run_string_add_sum w _ _ (by rw [ByteArray.size_append, q10]; omega)
  have HP := Lib.hid (And.intro hp1 (And.intro hp2 (And.intro hp3 hlx)))
  have HJ := Lib.hid hJ
  clear hp1 hp2 hp3 hlx hJ hM hM' hB hR e3 q10
  go_enter Tryz.func5, Tryz.ntmps5
  go_wp2_with fail
  refine (HA.out).mono ?_
  rintro e w1 ⟨rfl, f1⟩
  have HF1 := Lib.hid f1
  clear f1 HA
  go_wp2_with fail
  refine (HP.out.1 _ (HW.out.fr HF1.out)).mono ?_
  rintro e w2 ⟨v2, rfl, h2, f2⟩
  obtain ⟨c12, c22, b12, b22, rfl⟩ := h2.form
  obtain ⟨nc2, hnc2⟩ : ∃ n, M.cons.length = n := ⟨_, rfl⟩
  obtain ⟨nb2, hnb2⟩ : ∃ n, M.binds.length = n := ⟨_, rfl⟩
  simp only [hnc2, hnb2] at h2 ⊢
  obtain ⟨T2, hT2⟩ : ∃ T, w2.heap.size = T := ⟨_, rfl⟩
  obtain ⟨W2, hW2⟩ : ∃ W, w2.alloc (.cells #[.slice c12 nc2 c22, .slice b12 nb2 b22] 26) = W := ⟨_, rfl⟩
  have g2 : Fr Nil w2 W2 := by rw [← hW2]; exact frA
  have k2 : Blk W2 T2 #[.slice c12 nc2 c22, .slice b12 nb2 b22] 26 := by rw [← hW2, ← hT2]; exact Blk.new _ _ _
  have H2 := Lib.hid (And.intro (h2.free.fr g2 (fun _ q => q.elim)) (And.intro k2 ((HF1.out).comp (f2.comp g2))))
  have HWW2 := Lib.hid (And.intro hT2 hW2)
  have HG2 := Lib.hid (f2.comp g2)
  have lt2 : T2 < W2.heap.size := k2.lt
  clear h2 f2 g2 k2 hT2 hW2
  go_wp2_with fail
  try rw [HWW2.out.1]
  try rw [HWW2.out.2]
  clear HWW2
  refine (HP.out.2.1 _ (HW.out.fr H2.out.2.2)).mono ?_
  rintro e w3 ⟨v3, rfl, h3, f3⟩
  obtain ⟨c13, c23, b13, b23, rfl⟩ := h3.form
  obtain ⟨nc3, hnc3⟩ : ∃ n, M'.cons.length = n := ⟨_, rfl⟩
  obtain ⟨nb3, hnb3⟩ : ∃ n, M'.binds.length = n := ⟨_, rfl⟩
  simp only [hnc3, hnb3] at h3 ⊢
  obtain ⟨T3, hT3⟩ : ∃ T, w3.heap.size = T := ⟨_, rfl⟩
  obtain ⟨W3, hW3⟩ : ∃ W, w3.alloc (.cells #[.slice c13 nc3 c23, .slice b13 nb3 b23] 26) = W := ⟨_, rfl⟩
  have g3 : Fr Nil w3 W3 := by rw [← hW3]; exact frA
  have k3 : Blk W3 T3 #[.slice c13 nc3 c23, .slice b13 nb3 b23] 26 := by rw [← hW3, ← hT3]; exact Blk.new _ _ _
  have H3 := Lib.hid (And.intro (h3.free.fr g3 (fun _ q => q.elim)) (And.intro k3 ((H2.out.2.2).comp (f3.comp g3))))
  have HWW3 := Lib.hid (And.intro hT3 hW3)
  have HG3 := Lib.hid (f3.comp g3)
  have lt3 : T3 < W3.heap.size := k3.lt
  clear h3 f3 g3 k3 hT3 hW3
  go_wp2_with fail
  try rw [HWW3.out.1]
  try rw [HWW3.out.2]
  clear HWW3
  clear s1 s2
  refine (HP.out.2.2.1 _ (HW.out.fr H3.out.2.2)).mono ?_
  rintro e w4 ⟨v4, rfl, h4, f4⟩
  obtain ⟨c14, c24, b14, b24, rfl⟩ := h4.form
  obtain ⟨nc4, hnc4⟩ : ∃ n, Bm.cons.length = n := ⟨_, rfl⟩
  obtain ⟨nb4, hnb4⟩ : ∃ n, Bm.binds.length = n := ⟨_, rfl⟩
  simp only [hnc4, hnb4] at h4 ⊢
  obtain ⟨T4, hT4⟩ : ∃ T, w4.heap.size = T := ⟨_, rfl⟩
  obtain ⟨W4, hW4⟩ : ∃ W, w4.alloc (.cells #[.slice c14 nc4 c24, .slice b14 nb4 b24] 26) = W := ⟨_, rfl⟩
  have g4 : Fr Nil w4 W4 := by rw [← hW4]; exact frA
  have k4 : Blk W4 T4 #[.slice c14 nc4 c24, .slice b14 nb4 b24] 26 := by rw [← hW4, ← hT4]; exact Blk.new _ _ _
  have H4 := Lib.hid (And.intro (h4.free.fr g4 (fun _ q => q.elim)) (And.intro k4 ((H3.out.2.2).comp (f4.comp g4))))
  have HWW4 := Lib.hid (And.intro hT4 hW4)
  have HG4 := Lib.hid (f4.comp g4)
  have lt4 : T4 < W4.heap.size := k4.lt
  clear h4 f4 g4 k4 hT4 hW4
  go_wp2_with fail
  try rw [HWW4.out.1]
  try rw [HWW4.out.2]
  clear HWW4
  go_loopw [14, 15] (fun nv iv wr => ∃ k : Nat, k ≤ s.size ∧ nv = .int .i64 ((1 + endsN (s.data.toList.take k) : Nat) : Int) ∧ iv = .int .i64 k ∧ Hid (Fr Nil W4 wr)) (fun _ iv _ => s.size - (intOf iv).toNat)
  case atStart => exact ⟨0, by omega, rfl, rfl, Lib.hid (by exact frA)⟩
  case round =>
    obtain ⟨k, hk, rfl, rfl, HQ⟩ := hrel
    by_cases hlt : k < s.size
    · have i0 : (0 : Int) ≤ (k : Int) := by omega
      have i1 : (k : Int) < (s.size : Int) := by omega
      have hn := ends_next s k hlt
      have hle := ends_le (s.data.toList.take k)
      have hlk : (s.data.toList.take k).length ≤ k := by simp; omega
      have hw1 : IntKind.i64.wrap (((1 + endsN (s.data.toList.take k) : Nat) : Int) + 1) = ((1 + (endsN (s.data.toList.take k) + 1) : Nat) : Int) := by rw [IntKind.wrap_i64]; omega
      by_cases h10 : s[k] = 10
      · have hb : s[k].toNat = 10 := by rw [h10]; rfl
        rw [if_pos h10] at hn
        rw [← hn] at hw1
        clear hn h10
        obtain ⟨n1, hn1⟩ : ∃ n1, endsN (s.data.toList.take (k + 1)) = n1 := ⟨_, rfl⟩
        rw [hn1] at hw1
        have HN1 := Lib.hid hn1
        clear hn1
        generalize endsN (s.data.toList.take k) = n0 at *
        go_wp2
        go_roundw
        case rel => exact ⟨k + 1, by omega, by rw [HN1.out]; exact ends_step hw1 (by omega), by go_num, HQ⟩
        case measure => simp [intOf]; omega
      · have hb : ¬ s[k].toNat = 10 := fun q => h10 (UInt8.toNat_inj.1 q)
        rw [if_neg h10, Nat.add_zero] at hn
        clear hw1
        have HN := Lib.hid hn
        clear hn h10
        generalize endsN (s.data.toList.take k) = n0 at *
        go_wp2
        go_roundw
        case rel => exact ⟨k + 1, by omega, by rw [HN.out]; rfl, by go_num, HQ⟩
        case measure => simp [intOf]; omega
    · obtain rfl : k = s.size := by omega
      have i1 : ¬ ((s.size : Int) < (s.size : Int)) := by omega
      rw [show s.data.toList.take s.size = s.data.toList from List.take_of_length_le (by rw [size_of]; omega)]
      have hle := ends_le s.data.toList
      rw [size_of] at hle
      have hJ := HJ.out
      obtain ⟨N, hN⟩ : ∃ N, 1 + endsN s.data.toList = N := ⟨_, rfl⟩
      have hN2 : N ≤ 2001 := by omega
      rw [hN] at hJ ⊢
      obtain ⟨Vr, hVr⟩ : ∃ V, V = wr := ⟨_, rfl⟩
      subst hVr
      have HF := Lib.hid (H4.out.2.2.comp HQ.out)
      clear hN hle
      by_cases hE : E1 = 0
      · subst hE
        by_cases hF : F1 = 0
        · subst hF
          obtain ⟨hG, hBm⟩ := hJ.2.2 rfl rfl
          subst hG hBm
          clear hJ HJ
          have FV4 := HQ.out
          have FV3 : Fr Nil W3 Vr := HG4.out.comp FV4
          have FV2 : Fr Nil W2 Vr := HG3.out.comp FV3
          have mM := H2.out.1.fr FV2 (fun _ q => q.elim)
          have mN := H3.out.1.fr FV3 (fun _ q => q.elim)
          have mB := H4.out.1.fr FV4 (fun _ q => q.elim)
          obtain ⟨_, _, p1, d1, e, r1, r2, r3, r4⟩ := mM
          cases e
          obtain ⟨_, _, p2, d2, e, q1, q2, q3, q4⟩ := mN
          cases e
          have kM := FV2.blk H2.out.2.1 (fun q => q)
          have kN := FV3.blk H3.out.2.1 (fun q => q)
          have kB := FV4.blk H4.out.2.1 (fun q => q)
          have o1 := declC_one r2
          have o2 := declC_one q2
          have o3 := bindC_one r4
          have o4 := bindC_one q4
          rw [hnc2] at r1 o1
          rw [hnc3] at q1 o2
          rw [hnb2] at r3 o3
          rw [hnb3] at q3 o4
          have hl1 : ∀ i, i < M.binds.length → (d1 i).length = 10 := fun i hi => RowC.lens r3 i (by rw [← hnb2]; exact hi)
          have hl2 : ∀ i, i < M'.binds.length → (d2 i).length = 10 := fun i hi => RowC.lens q3 i (by rw [← hnb3]; exact hi)
          have HJ0 := Lib.hid (JoinAt.mk (w := Vr) r2 q2 r4 q4 hl1 hl2)
          have HO := Lib.hid (And.intro o1 (And.intro o2 (And.intro o3 o4)))
          have HX : Hid (∀ w', Fr Nil Vr w' → Src w' c12 nc2 2 (flatB p1 0 nc2) ∧ Src w' c13 nc3 2 (flatB p2 0 nc3) ∧ Src w' b12 nb2 10 (flatB d1 0 nb2) ∧ Src w' b13 nb3 10 (flatB d2 0 nb3)) := Lib.hid (fun w' f => ⟨src_take (r1.fr f (fun _ q => q)) (Nat.le_refl _), src_take (q1.fr f (fun _ q => q)) (Nat.le_refl _), src_take (r3.fr f (fun _ q => q)) (Nat.le_refl _), src_take (q3.fr f (fun _ q => q)) (Nat.le_refl _)⟩)
          have x0 := kM.cell 0
          have x1 := kM.cell 1
          have y0 := kN.cell 0
          have y1 := kN.cell 1
          simp at x0 x1 y0 y1
          have HC : Hid (∀ w', Fr Nil Vr w' → (fun w' : World => w'.cell? ⟨T2, 0, none⟩ = some (.slice c12 nc2 c22) ∧ w'.cell? ⟨T2, 1, none⟩ = some (.slice b12 nb2 b22) ∧ w'.cell? ⟨T3, 0, none⟩ = some (.slice c13 nc3 c23) ∧ w'.cell? ⟨T3, 1, none⟩ = some (.slice b13 nb3 b23)) w') := Lib.hid (fun w' f => ⟨f.cell x0 (fun q => q), f.cell x1 (fun q => q), f.cell y0 (fun q => q), f.cell y1 (fun q => q)⟩)
          have HBK := Lib.hid (And.intro kB mB)
          have HLn := Lib.hid (And.intro hnc2 (And.intro hnc3 (And.intro hnb2 hnb3)))
          have hn1 : nc2 + nc3 ≤ 8194 := by rw [← hnc2, ← hnc3]; omega
          have hn2 : nb2 + nb3 ≤ 8194 := by rw [← hnb2, ← hnb3]; omega
          have lk2 := kM.lt
          have lk3 := kN.lt
          clear FV4 FV3 FV2 r1 r2 r3 r4 q1 q2 q3 q4 kM kN kB mB o1 o2 o3 o4 hl1 hl2 hnc2 hnc3 hnb2 hnb3 HG2 HG3 HG4 H2 H3 hnc4 hnb4
          go_upto_region 23 with fail
          go_cut [19] (fun sv wx => ∃ (tb : Nat) (ca : Option Addr) (cc : Nat) (ba : Option Addr) (bc : Nat), sv = .pointer (some ⟨tb, 0, none⟩) ∧ Hid (Blk wx tb #[.slice ca (nc2 + nc3) cc, .slice ba (nb2 + nb3) bc] 26 ∧ MVal (fun _ => False) wx (.agg #[.slice ca (nc2 + nc3) cc, .slice ba (nb2 + nb3) bc]) ⟨M.cons ++ M'.cons, M.binds ++ M'.binds⟩ ∧ Fr Nil Vr wx))
          case first =>
            refine wp_region_held_drew (S := fun w' => w'.cell? ⟨T2, 0, none⟩ = some (.slice c12 nc2 c22) ∧ w'.cell? ⟨T2, 1, none⟩ = some (.slice b12 nb2 b22) ∧ w'.cell? ⟨T3, 0, none⟩ = some (.slice c13 nc3 c23) ∧ w'.cell? ⟨T3, 1, none⟩ = some (.slice b13 nb3 b23)) (by kernel_rfl) (HC.out _ (by exact frA)) (fun hHeld => ?_)
            have FD : Fr Nil Vr Vr.drew := by exact frA
            change wpAnyH _ _ _ _ _ 17 #[false, false, false, false, false, false, false, false, false, false, false, false, false, false, false, false, false] _ _
            refine held_take (i := 1) (v := ?_) rfl (by kernel_rfl) (by kernel_rfl) (by kernel_rfl) (fun _ _ _ h => h) (by rfl) (by assumption) ?_ ?_
            rotate_left
            · (intro w hSw; (try dsimp only at hSw); go_simp; try with_reducible rfl)
            try simp only [Act.put, List.setIfInBounds_toArray, List.set_cons_zero, List.set_cons_succ]
            refine held_take (i := 2) (v := ?_) rfl (by kernel_rfl) (by kernel_rfl) (by kernel_rfl) (fun _ _ _ h => h) (by rfl) (by assumption) ?_ ?_
            rotate_left
            · (intro w hSw; (try dsimp only at hSw); go_simp; try with_reducible rfl)
            try simp only [Act.put, List.setIfInBounds_toArray, List.set_cons_zero, List.set_cons_succ]
            refine held_take (i := 4) (v := ?_) rfl (by kernel_rfl) (by kernel_rfl) (by kernel_rfl) (fun _ _ _ h => h) (by rfl) (by assumption) ?_ ?_
            rotate_left
            · (intro w hSw; (try dsimp only at hSw); go_simp; try with_reducible rfl)
            try simp only [Act.put, List.setIfInBounds_toArray, List.set_cons_zero, List.set_cons_succ]
            refine held_take (i := 5) (v := ?_) rfl (by kernel_rfl) (by kernel_rfl) (by kernel_rfl) (fun _ _ _ h => h) (by rfl) (by assumption) ?_ ?_
            rotate_left
            · (intro w hSw; (try dsimp only at hSw); go_simp; try with_reducible rfl)
            try simp only [Act.put, List.setIfInBounds_toArray, List.set_cons_zero, List.set_cons_succ]
            refine held_take (i := 8) (v := ?_) rfl (by kernel_rfl) (by kernel_rfl) (by kernel_rfl) (fun _ _ _ h => h) (by rfl) (by assumption) ?_ ?_
            rotate_left
            · (intro w hSw; (try dsimp only at hSw); go_simp; try with_reducible rfl)
            try simp only [Act.put, List.setIfInBounds_toArray, List.set_cons_zero, List.set_cons_succ]
            refine held_take (i := 9) (v := ?_) rfl (by kernel_rfl) (by kernel_rfl) (by kernel_rfl) (fun _ _ _ h => h) (by rfl) (by assumption) ?_ ?_
            rotate_left
            · (intro w hSw; (try dsimp only at hSw); go_simp; try with_reducible rfl)
            try simp only [Act.put, List.setIfInBounds_toArray, List.set_cons_zero, List.set_cons_succ]
            refine held_take (i := 11) (v := ?_) rfl (by kernel_rfl) (by kernel_rfl) (by kernel_rfl) (fun _ _ _ h => h) (by rfl) (by assumption) ?_ ?_
            rotate_left
            · (intro w hSw; (try dsimp only at hSw); go_simp; try with_reducible rfl)
            try simp only [Act.put, List.setIfInBounds_toArray, List.set_cons_zero, List.set_cons_succ]
            refine held_take (i := 12) (v := ?_) rfl (by kernel_rfl) (by kernel_rfl) (by kernel_rfl) (fun _ _ _ h => h) (by rfl) (by assumption) ?_ ?_
            rotate_left
            · (intro w hSw; (try dsimp only at hSw); go_simp; try with_reducible rfl)
            try simp only [Act.put, List.setIfInBounds_toArray, List.set_cons_zero, List.set_cons_succ]
            refine jh_000 (W := Vr.drew) (n1 := nc2) (n2 := nc3) (m1 := nb2) (m2 := nb3) (xA := flatB p1 0 nc2) (yA := flatB p2 0 nc3) (xB := flatB d1 0 nb2) (yB := flatB d2 0 nb3) (sA1 := c12) (sA2 := c13) (sB1 := b12) (sB2 := b13) (kA1 := c22) (kA2 := c23) (kB1 := b22) (kB2 := b23) ⟨?jops, ?jsz, rfl, rfl, rfl, rfl, fun w' f => HX.out w' (FD.comp f), HO.out, ⟨hn1, hn2⟩, fun w' f => HC.out w' (FD.comp f), ?jfin⟩ ⟨Fr.refl _ _, fun _ e => (by cases e), fun _ e => (by cases e), fun _ e => (by cases e)⟩
            case jops => constructor <;> first | exact ⟨_, rfl, rfl, rfl, rfl⟩ | kernel_rfl
            case jsz => exact Nat.le_of_ble_eq_true rfl
            case jfin =>
              intro vA0 vA1 vA2 vB0 vB1 vB2 bM w9 wf J hwf
              have hA : w9.ownsRow Vr.drew.heap.size 68 2 vA2 (nc2 + nc3) (flatB p1 0 nc2 ++ flatB p2 0 nc3) := J.2.1 _ rfl
              have hB : w9.ownsRow Vr.drew.heap.size 51 10 vB2 (nb2 + nb3) (flatB d1 0 nb2 ++ flatB d2 0 nb3) := J.2.2.1 _ rfl
              obtain ⟨xa, ya, rfl⟩ := owns_shape hA
              obtain ⟨xb, yb, rfl⟩ := owns_shape hB
              obtain ⟨hM, hMb⟩ := J.2.2.2 _ rfl
              have hb : Blk wf bM #[.slice xa (nc2 + nc3) ya, .slice xb (nb2 + nb3) yb] 26 := by
                rw [hwf]
                (unfold Blk; simp (disch := first | omega | (simp; done) | (simp; omega)) only [hp_drew, hp_drewN, hp_alloc, hp_other, hp_same, hp_new, upd_cells, Option.map_some, (hM).eq])
                try simp
              have ff : Fr (fun k => k = bM) w9 wf := by rw [hwf]; exact set_twoJ _ _ _ _
              have L := join_leaf HLn.out.1 HLn.out.2.1 HLn.out.2.2.1 HLn.out.2.2.2 HJ0.out hA hB (FD.comp J.1) ff (fun k q => by have q' : k = bM := q; have : Vr.drew.heap.size = Vr.heap.size := rfl; omega) (fun k e q => own_blk_ne hA hM (by decide) (by have q' : k = bM := q; rw [← q']; exact e)) (fun k e q => own_blk_ne hB hM (by decide) (by have q' : k = bM := q; rw [← q']; exact e)) hb
              have HLF := Lib.hid L
              clear L hb ff hM hMb hA hB hwf J
              simp only [Act.put, List.setIfInBounds_toArray, List.set_cons_zero, List.set_cons_succ]
              go_wp2_with fail
              go_meet
              case rel => exact ⟨_, _, _, _, _, rfl, HLF⟩
          case rest =>
            obtain ⟨tb, ca, cc, ba, bc, rfl, HT⟩ := hcut
            obtain ⟨W6, hW6⟩ : ∃ W, W = wc := ⟨_, rfl⟩
            subst hW6
            have kb := HT.out.2.2.blk HBK.out.1 (fun q => q)
            have mb := HBK.out.2.fr HT.out.2.2 (fun _ q => q.elim)
            have z0 := kb.cell 0
            have z1 := kb.cell 1
            have y0 := HT.out.1.cell 0
            have y1 := HT.out.1.cell 1
            simp at z0 z1 y0 y1
            have HFF := Lib.hid (HF.out.comp HT.out.2.2)
            have HMB := Lib.hid mb
            clear kb mb
            go_wp2_with fail
            refine (same8_any (HMB.out.fr (S := Nil) (by exact frA) (fun _ q => q.elim)) (HT.out.2.1.fr (S := Nil) (by exact frA) (fun _ q => q.elim))).mono ?_
            rintro e w7 ⟨rfl, f7⟩
            have HFZ := Lib.hid (HFF.out.comp (Fr.comp (S := Nil) (by exact frA) f7))
            clear f7
            go_wp2
            go_ret
            exact ⟨rfl, HFZ.out⟩
        · obtain ⟨hG, hG2⟩ := hJ.2.1 rfl hF
          subst hG
          have dF : (G1 == 0) = false := by simpa using hF
          clear hJ HJ
          by_cases h17 : G1 = 17
          · subst h17
            obtain ⟨R, hR⟩ : ∃ R, IntKind.i64.wrap ((F2 : Int) + (N : Int)) = R := ⟨_, rfl⟩
            by_cases hx : (G2 : Int) = R
            · go_wp2
              go_ret
              exact ⟨rfl, HF.out.comp (by exact frA)⟩
            · go_wp2
              go_ret
              exact ⟨rfl, HF.out.comp (by exact frA)⟩
          · have hG3 := hG2.resolve_right h17
            have hb' := hb h17
            subst hG3
            have wk : IntKind.i64.wrap ((F2 : Int) + (N : Int)) = (F2 : Int) + (N : Int) := by rw [IntKind.wrap_i64]; omega
            go_wp2
            go_ret
            exact ⟨rfl, HF.out.comp (by exact frA)⟩
      · have dE : (E1 == 0) = false := by simpa using hE
        by_cases h17 : E1 = 17
        · subst h17
          go_wp2
          go_ret
          exact ⟨rfl, HF.out.comp (by exact frA)⟩
        · have d17 : (E1 == 17) = false := by simpa using h17
          obtain ⟨hJa, hJb⟩ := hJ.1 hE h17
          clear hJ HJ
          go_wp2_with fail
          refine (HP.out.2.2.2 _ (HW.out.fr HF.out)).mono ?_
          rintro e w5 ⟨v5, rfl, hv5, f5⟩
          have HF5 := Lib.hid (HF.out.comp f5)
          clear hv5 f5
          by_cases her : er = 0
          · subst her
            obtain ⟨hG, hG2⟩ := hJb rfl
            subst hG hG2
            clear hJa hJb
            go_wp2
            go_ret
            exact ⟨rfl, HF5.out.comp (by exact frA)⟩
          · have der : (er == 0) = false := by simpa using her
            have hG := hJa her
            have dG : (G1 == 0) = false := by simpa using hG
            have dN : (G1 != 0) = true := by simpa using hG
            clear hJa hJb
            go_wp2
            go_ret
            exact ⟨rfl, HF5.out.comp (by exact frA)⟩
end Go.Proofs.YtlnmicddobgppaaGreatDoor
