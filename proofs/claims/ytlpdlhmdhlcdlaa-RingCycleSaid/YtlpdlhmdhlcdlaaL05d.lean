/-
  The law RingTurns. Conditions: none but the argument's width.
-/
import Derived.Test.YtlpdlhmdhlcdlaaL05c
namespace Go.Proofs.Ytlpdlhmdhlcdlaa
set_option linter.unusedSimpArgs false
set_option linter.unusedVariables false
open Go.RowKit

/-- The cells as they come to lie. -/
def wl : Nat → List Nat
  | 0 => []
  | k + 1 => (3 * k + 1) :: wl k
theorem wl_len : ∀ k, (wl k).length = k
  | 0 => rfl
  | k + 1 => by simp [wl, wl_len k]
theorem wl_mem : ∀ k x, x ∈ wl k → x + 2 < 3 * k + 1
  | 0, x, h => by simp [wl] at h
  | k + 1, x, h => by
    simp [wl] at h
    rcases h with h | h
    · omega
    · have := wl_mem k x h
      omega
section
variable (rg ba bw n : Nat) (u : Nat) (w : World) (F2 B : List Nat) (c : Nat)
theorem rshade_in (h : RingIs w rg ba bw n ⟨[], c :: F2, [], B⟩ u) (hu : u ≤ 900000000000) :
    Calls Try.prog 14 #[.pointer (some ⟨rg, 0, none⟩), .int .i64 (c : Int)] w fun e w' => e = .returned (.int .i64 0) ∧ (∃ u', RingIs w' rg ba bw n ⟨[], F2, [] ++ [c], B⟩ u' ∧ u' ≤ u + 20) ∧ Fr (RS rg ba bw) w w' := by
  by_cases hM : F2 ++ B = []
  · obtain ⟨rfl, rfl⟩ := List.append_eq_nil_iff.1 hM
    exact rshade_one rg ba bw n u w c h hu
  · exact rshade_many rg ba bw n u w [] [] F2 [] B c h (by simpa using hM) hu
end
theorem run_eq_four (w : World) (x1 x2 x3 x4 : Int) : (binOp .eql 38 (.agg #[.int .i64 x1, .int .i64 x2, .int .i64 x3, .int .i64 x4]) (.agg #[.int .i64 x1, .int .i64 x2, .int .i64 x3, .int .i64 x4])).run Try.prog w = .ok (.bool true) w := by
  have info_int : (Try.prog.info? 3).isSome = true := by kernel_rfl
  obtain ⟨i, hi⟩ := Option.isSome_iff_exists.1 info_int
  have hp : Try.prog.plainKey 3 = true := by kernel_rfl
  have hc : Try.prog.cellsOf 3 = 1 := by kernel_rfl
  have h : ∀ d : Nat, (Op.equalIn (d + 1 + 1) 38 (.agg #[.int .i64 x1, .int .i64 x2, .int .i64 x3, .int .i64 x4]) (.agg #[.int .i64 x1, .int .i64 x2, .int .i64 x3, .int .i64 x4])).run Try.prog w = .ok true w := fun d => by
    rw [run_equalIn_array w (d + 1) _ _ Try.underlying38 hi, hc, show List.range 4 = [0, 1, 2, 3] from rfl]
    have p0 := run_part_plain w hp (xs := #[.int .i64 x1, .int .i64 x2, .int .i64 x3, .int .i64 x4]) (off := 0) (v := .int .i64 x1) rfl
    have p1 := run_part_plain w hp (xs := #[.int .i64 x1, .int .i64 x2, .int .i64 x3, .int .i64 x4]) (off := 1) (v := .int .i64 x2) rfl
    have p2 := run_part_plain w hp (xs := #[.int .i64 x1, .int .i64 x2, .int .i64 x3, .int .i64 x4]) (off := 2) (v := .int .i64 x3) rfl
    have p3 := run_part_plain w hp (xs := #[.int .i64 x1, .int .i64 x2, .int .i64 x3, .int .i64 x4]) (off := 3) (v := .int .i64 x4) rfl
    have q1 := run_equalIn_int (P := Try.prog) w d 3 .i64 .i64 x1 x1 Try.underlying3
    have q2 := run_equalIn_int (P := Try.prog) w d 3 .i64 .i64 x2 x2 Try.underlying3
    have q3 := run_equalIn_int (P := Try.prog) w d 3 .i64 .i64 x3 x3 Try.underlying3
    have q4 := run_equalIn_int (P := Try.prog) w d 3 .i64 .i64 x4 x4 Try.underlying3
    simp [Op.eqItems, Sem.run_bind, p0, p1, p2, p3, Result.andThen_ok, q1, q2, q3, q4]
  simp only [binOp]
  simp [Op.equal, Op.maxDepth, h 9998]
theorem run_seg0 (a b c d : Value) (w : World) : (Instr.field 32 (.agg #[a, b, c, d]) 0).run Try.prog w = .ok a w := by kernel_rfl
theorem run_seg3 (a b c d : Value) (w : World) : (Instr.field 32 (.agg #[a, b, c, d]) 3).run Try.prog w = .ok d w := by kernel_rfl
theorem ints_self (A : List Nat) (va vb : Value) (w : World) (h1 : RowV w va A) (h2 : RowV w vb A) (hl : A.length ≤ 1000000) :
    Calls Try.prog 12 #[va, vb] w fun e w' => e = .returned (.bool true) ∧ Fr Nil w w' := by
  have h := ints_any A A va vb w h1 h2 hl
  rw [decide_eq_true rfl] at h
  exact h
theorem RowV.at {w : World} {a : Option Addr} {n cap : Nat} {L : List Nat} (h : RowV w (.slice a n cap) L) (i : Nat) (hi : i < L.length) : ∃ g, a = some ⟨g, 0, none⟩ ∧ w.cell? ⟨g, i, none⟩ = some (.int .i64 ((L[i] : Nat) : Int)) := by
  obtain ⟨a1, c1, e, hc⟩ := h
  injection e with e1 e2 e3
  subst e1
  exact hc i hi
set_option maxRecDepth 100000 in
theorem turns_any (x : Int) (al : Bool) (h0 : 0 ≤ x) (h1 : x < 256) (w : World) :
    Calls Try.prog 3 #[.int .u8 x, .bool al] w fun e w' => e = .returned (.bool true) ∧ Fr Nil w w' := by
  obtain ⟨X, rfl⟩ := Int.eq_ofNat_of_zero_le h0
  obtain ⟨m, hm⟩ : ∃ m, X % 30 = m := ⟨_, rfl⟩
  have hm1 : m < 30 := by omega
  have a1 : (X : Int).tmod 30 = (m : Int) := by rw [Int.tmod_eq_emod_of_nonneg (by omega)]; omega
  have a2 : IntKind.u8.wrap (m : Int) = (m : Int) := by simp [IntKind.wrap, IntKind.bits, IntKind.signed]; omega
  have a3 : IntKind.i64.wrap (m : Int) = (m : Int) := by rw [IntKind.wrap_i64]; omega
  have a4 : IntKind.i64.wrap ((m : Int) + 1) = (m : Int) + 1 := by rw [IntKind.wrap_i64]; omega
  clear hm h0 h1
  have hs0 := run_seg0
  have hs3 := run_seg3
  go_enter Try.func3, Try.ntmps3
  go_wp2_with fail
  refine (awake_any w).mono ?_
  rintro e w0 ⟨rfl, f0⟩
  go_wp2_with fail
  obtain ⟨n, hn⟩ : ∃ n : Nat, m + 1 = n := ⟨_, rfl⟩
  have e1 : (m : Int) + 1 = (n : Int) := by omega
  have hn1 : 1 ≤ n := by omega
  have hn2 : n ≤ 30 := by omega
  rw [e1]
  clear a1 a2 a3 a4 e1 hm1 hn
  have hmd := made_any (3 * n + 1) w0 (by omega) (by omega)
  rw [show ((3 * n + 1 : Nat) : Int) = 3 * (n : Int) + 1 by omega] at hmd
  refine hmd.mono ?_
  clear hmd
  rintro e w1 ⟨ba, bw, rg, sb, rfl, h1, _, s1, s2, s3, s4, f1⟩
  have HS := Lib.hid (And.intro s1 (And.intro s2 (And.intro s3 s4)))
  have H1 := Lib.hid h1
  clear s1 s2 s3 s4 h1
  go_wp2_with fail
  go_loopg [10] n (fun g iv wr => ∃ k u : Nat, g = n - k ∧ k ≤ n ∧ iv = .int .i64 k ∧ Hid (RingIs wr rg ba bw (3 * n + 1) ⟨wl k, [], [], []⟩ u) ∧ u ≤ 20 * k ∧ Fr (RS rg ba bw) w1 wr)
  case atStart => exact ⟨0, 0, rfl, by omega, rfl, H1, by omega, Fr.refl _ _⟩
  case round =>
    obtain ⟨k, u, rfl, hk, rfl, HR, hu, hw⟩ := hrel
    by_cases hlt : k < n
    · have i1 : (k : Int) < (n : Int) := by omega
      have hg := rgrow_in rg ba bw (3 * n + 1) _ u wr HR.out (3 * k + 1) (by omega) (by omega) (fun y hy => by simp [Seg4.all] at hy; have := wl_mem k y hy; omega) (by omega)
      rw [show ((3 * k + 1 : Nat) : Int) = 3 * (k : Int) + 1 by omega] at hg
      have HG := Lib.hid hg
      clear hg
      go_wp2_with fail
      refine HG.out.mono ?_
      rintro e w2 ⟨rfl, ⟨u2, h2, hu2⟩, f2⟩
      have H2 := Lib.hid h2
      clear h2
      go_wp2_with fail
      go_roundg (n - (k + 1))
      case rel => exact ⟨k + 1, u2, rfl, by omega, by go_num, H2, by omega, by (repeat (first | (with_reducible exact Fr.refl _ _) | (with_reducible assumption) | (with_reducible exact Fr.of_nil (by assumption)) | (with_reducible refine Fr.drew ?_) | (with_reducible refine Fr.drewN ?_ _) | (with_reducible refine Fr.alloc ?_ _) | (with_reducible refine Fr.set ?_ _ _ (by first | (intros; omega) | (simp; done) | (simp; omega))) | (with_reducible refine Fr.via ?_ (by assumption)) | (with_reducible refine Fr.comp ?_ (by assumption))))⟩
      case measure => omega
    · obtain rfl : k = n := by omega
      have i1 : ¬ ((k : Int) < (k : Int)) := by omega
      have HL := Lib.hid (list_any rg ba bw (3 * k + 1) u _ wr HR.out (by omega))
      go_wp2_with fail
      refine HL.out.mono ?_
      rintro e w2 ⟨⟨v0, v1, v2, v3, rfl, r0, _, _, _⟩, ⟨u2, h2, hu2⟩, f2⟩
      have hub : u2 ≤ 200000 := by omega
      have V0 := r0.toV
      have O0 := r0.own
      have hwr := hw.size
      have hO : ∀ g, v0.ownBlock = some g → ¬ RS rg ba bw g := fun g hg q => by
        have t := (O0 g hg).1
        have t1 := HR.out.choose_spec.choose_spec.choose_spec.1
        have t2 := t1.blk.lt
        have t3 := t1.ar.box.lt
        have t4 := t1.ar.words.lt
        rcases q with q | q | q <;> omega
      obtain ⟨a0, cap, ev, _⟩ := id V0
      rw [wl_len] at ev
      subst ev
      obtain ⟨L, hL⟩ : ∃ L, wl k = L := ⟨_, rfl⟩
      have hLn : L.length = k := by rw [← hL]; exact wl_len k
      rw [hL] at V0 h2
      have F2 : Fr Nil w w2 := (f0.comp f1).trans (hw.comp (ba_rs f2)) (by
        intro q hq q'
        have t0 := f0.size
        obtain ⟨t1, t2, t3, _⟩ := HS.out
        rcases q' with q' | q' | q' <;> omega)
      have H2 := Lib.hid h2
      have HV := Lib.hid (And.intro V0 (And.intro hO hLn))
      have HW : Hid (∀ q, q < w.heap.size → RS rg ba bw q → False) := (by
        intro q hq q'
        have t0 := f0.size
        obtain ⟨t1, t2, t3, _⟩ := HS.out
        rcases q' with q' | q' | q' <;> omega)
      have HLn := Lib.hid hLn
      clear h2 hO r0 O0 hLn hu hu2 V0 f0 f1 hw f2 hwr HL HR hL i1 H1 HS hlt hk
      go_wp2_with fail
      go_loopg [12] k (fun g iv wr => ∃ j u : Nat, g = k - j ∧ j ≤ k ∧ iv = .int .i64 j ∧ Hid (RingIs wr rg ba bw (3 * k + 1) ⟨L.drop j, [], [], L.take j⟩ u) ∧ u ≤ 200000 + 20 * j ∧ Fr (RS rg ba bw) w2 wr)
      case atStart => exact ⟨0, u2, rfl, by omega, rfl, H2, by omega, Fr.refl _ _⟩
      case round =>
        obtain ⟨j, u, rfl, hj, rfl, HR, hu, hw⟩ := hrel
        by_cases hlt : j < k
        · have i1 : (j : Int) < (k : Int) := by omega
          have hjL : j < L.length := by rw [HLn.out]; exact hlt
          obtain ⟨g, rfl, p0⟩ := HV.out.1.at j hjL
          obtain ⟨c, hcj⟩ : ∃ c, L[j] = c := ⟨_, rfl⟩
          have hdr : L.drop j = c :: L.drop (j + 1) := by rw [List.drop_eq_getElem_cons hjL, hcj]
          have htk : L.take (j + 1) = L.take j ++ [c] := by rw [List.take_succ_eq_append_getElem hjL, hcj]
          rw [hcj] at p0
          have HA := Lib.hid (ralloc_some rg ba bw (3 * k + 1) u wr (L.drop (j + 1)) [] [] (L.take j) c (by rw [← hdr]; exact HR.out) (by omega))
          have HT := Lib.hid htk
          have hg2 := World.block_lt_of_cell? w2 _ p0
          have P0 := Lib.hid p0
          clear hdr htk hcj p0
          go_wp2_with fail
          refine HA.out.mono ?_
          rintro e w3 ⟨rfl, ⟨u3, h3, hu3⟩, f3⟩
          have H3 := Lib.hid h3
          clear h3
          have f23 := hw.comp f3
          have p1 : w3.cell? ⟨g, j, none⟩ = some (.int .i64 (c : Int)) := by rw [World.cell?_of_block (f23.block g hg2 (HV.out.2.1 g rfl))]; exact P0.out
          have lt1 : g < w3.heap.size := World.block_lt_of_cell? w3 _ p1
          have i0 : (0 : Int) ≤ (j : Int) := by omega
          go_wp2
          go_roundg (k - (j + 1))
          case rel => exact ⟨j + 1, u3, rfl, by omega, by go_num, Lib.hid (by rw [HT.out]; exact H3.out), by omega, by (repeat (first | (with_reducible exact Fr.refl _ _) | (with_reducible assumption) | (with_reducible exact Fr.of_nil (by assumption)) | (with_reducible refine Fr.drew ?_) | (with_reducible refine Fr.drewN ?_ _) | (with_reducible refine Fr.alloc ?_ _) | (with_reducible refine Fr.set ?_ _ _ (by first | (intros; omega) | (simp; done) | (simp; omega))) | (with_reducible refine Fr.via ?_ (by assumption)) | (with_reducible refine Fr.comp ?_ (by assumption))))⟩
          case measure => omega
        · obtain rfl : j = k := by omega
          have i1 : ¬ ((j : Int) < (j : Int)) := by omega
          have h3 := HR.out
          rw [List.drop_of_length_le (by rw [HLn.out]; exact Nat.le_refl _), List.take_of_length_le (by rw [HLn.out]; exact Nat.le_refl _)] at h3
          have HL := Lib.hid (list_any rg ba bw (3 * j + 1) u _ wr h3 (by omega))
          clear h3
          go_wp2_with fail
          refine HL.out.mono ?_
          rintro e w4 ⟨⟨t0, t1, t2, t3, rfl, _, _, _, r3⟩, ⟨uq, h4, hu4⟩, f4⟩
          have hub4 : uq ≤ 400000 := by omega
          have f24 := hw.comp (ba_rs f4)
          have H4 := Lib.hid (And.intro h4 r3.toV)
          clear h4 r3 hw f4 hu hu4 HL HR H2
          go_wp2_with fail
          refine (ints_self L _ _ _ H4.out.2 (HV.out.1.frS f24 HV.out.2.1) (by rw [HLn.out]; omega)).mono ?_
          rintro e w5 ⟨rfl, f5⟩
          have HB := Lib.hid (rbegin_ok rg ba bw (3 * j + 1) uq w5 [] L (H4.out.1.fr f5 (fun q => q) (fun q => q) (fun q => q)))
          go_wp2_with fail
          refine HB.out.mono ?_
          rintro e w6 ⟨rfl, h6, f6⟩
          have H6 := Lib.hid h6
          have F26 : Fr (RS rg ba bw) w2 w6 := (f24.via f5).comp f6
          clear h6 HB H4 f24 f5 f6
          cases al with
          | true =>
            go_wp2_with fail
            go_loopg [15] j (fun g iv wr => ∃ i u : Nat, g = j - i ∧ i ≤ j ∧ iv = .int .i64 i ∧ Hid (RingIs wr rg ba bw (3 * j + 1) ⟨[], L.drop i, [], (L.take i).reverse⟩ u) ∧ u ≤ 400000 + 40 * i ∧ Fr (RS rg ba bw) w2 wr)
            case atStart => exact ⟨0, uq, rfl, by omega, rfl, H6, by omega, F26⟩
            case round =>
              obtain ⟨i, u, rfl, hi, rfl, HR, hu, hw⟩ := hrel
              by_cases hlt : i < j
              · have i1 : (i : Int) < (j : Int) := by omega
                have hjL : i < L.length := by rw [HLn.out]; exact hlt
                obtain ⟨g, rfl, p0⟩ := HV.out.1.at i hjL
                obtain ⟨c, hcj⟩ : ∃ c, L[i] = c := ⟨_, rfl⟩
                have hdr : L.drop i = c :: L.drop (i + 1) := by rw [List.drop_eq_getElem_cons hjL, hcj]
                have htk : (L.take (i + 1)).reverse = c :: (L.take i).reverse := by rw [List.take_succ_eq_append_getElem hjL, hcj]; simp
                rw [hcj] at p0
                have hg2 := World.block_lt_of_cell? w2 _ p0
                have p1 : wr.cell? ⟨g, i, none⟩ = some (.int .i64 (c : Int)) := by rw [World.cell?_of_block (hw.block g hg2 (HV.out.2.1 g rfl))]; exact p0
                have lt1 : g < wr.heap.size := World.block_lt_of_cell? wr _ p1
                have i0 : (0 : Int) ≤ (i : Int) := by omega
                have HA := Lib.hid (rshade_in rg ba bw (3 * j + 1) u wr (L.drop (i + 1)) ((L.take i).reverse) c (by rw [← hdr]; exact HR.out) (by omega))
                have HT := Lib.hid htk
                clear hdr htk hcj p0 hg2
                go_wp2_with fail
                refine HA.out.mono ?_
                rintro e w7 ⟨rfl, ⟨u7, h7, hu7⟩, f7⟩
                have HD := Lib.hid (rdone_some rg ba bw (3 * j + 1) u7 w7 [] (L.drop (i + 1)) [] ((L.take i).reverse) c h7 (by omega))
                clear h7
                go_wp2_with fail
                refine HD.out.mono ?_
                rintro e w8 ⟨rfl, ⟨u8, h8, hu8⟩, f8⟩
                have H8 := Lib.hid h8
                clear h8
                go_wp2
                go_roundg (j - (i + 1))
                case rel => exact ⟨i + 1, u8, rfl, by omega, by go_num, Lib.hid (by rw [HT.out]; exact H8.out), by omega, by (repeat (first | (with_reducible exact Fr.refl _ _) | (with_reducible assumption) | (with_reducible exact Fr.of_nil (by assumption)) | (with_reducible refine Fr.drew ?_) | (with_reducible refine Fr.drewN ?_ _) | (with_reducible refine Fr.alloc ?_ _) | (with_reducible refine Fr.set ?_ _ _ (by first | (intros; omega) | (simp; done) | (simp; omega))) | (with_reducible refine Fr.via ?_ (by assumption)) | (with_reducible refine Fr.comp ?_ (by assumption))))⟩
                case measure => omega
              · obtain rfl : i = j := by omega
                have i1 : ¬ ((i : Int) < (i : Int)) := by omega
                have h9 := HR.out
                rw [List.drop_of_length_le (by rw [HLn.out]; exact Nat.le_refl _), List.take_of_length_le (by rw [HLn.out]; exact Nat.le_refl _)] at h9
                have HE := Lib.hid (rend_ok rg ba bw (3 * i + 1) u wr [] [] L.reverse h9)
                clear h9
                go_wp2_with fail
                refine HE.out.mono ?_
                rintro e w9 ⟨rfl, h9, f9⟩
                have hcn := rcounts_any rg ba bw (3 * i + 1) u w9 _ h9
                simp only [List.append_nil, List.length_nil, List.length_reverse, HLn.out] at hcn
                have HCn := Lib.hid hcn
                clear h9 hcn
                go_wp2_with fail
                refine HCn.out.mono ?_
                rintro e w10 ⟨rfl, f10⟩
                have G : Fr Nil w w10 := F2.trans ((hw.comp f9).via f10) (fun q hq q' => (HW.out q hq q').elim)
                clear F2 hw f9 f10 F26
                have hq4 := run_eq_four
                go_wp2
                go_ret
                exact ⟨rfl, by (repeat (first | (with_reducible exact Fr.refl _ _) | (with_reducible assumption) | (with_reducible exact Fr.of_nil (by assumption)) | (with_reducible refine Fr.drew ?_) | (with_reducible refine Fr.drewN ?_ _) | (with_reducible refine Fr.alloc ?_ _) | (with_reducible refine Fr.set ?_ _ _ (by first | (intros; omega) | (simp; done) | (simp; omega))) | (with_reducible refine Fr.via ?_ (by assumption)) | (with_reducible refine Fr.comp ?_ (by assumption))))⟩
          | false =>
            go_wp2_with fail
            go_loopg [15] 0 (fun g iv wr => g = 0 ∧ iv = .int .i64 0 ∧ wr = w6)
            case atStart => exact ⟨rfl, rfl, rfl⟩
            case round =>
              obtain ⟨rfl, rfl, rfl⟩ := hrel
              have i1 : (0 : Int) < (j : Int) := by omega
              have HE := Lib.hid (rend_ok rg ba bw (3 * j + 1) uq _ [] L [] H6.out)
              go_wp2_with fail
              refine HE.out.mono ?_
              rintro e w9 ⟨rfl, h9, f9⟩
              have hcn := rcounts_any rg ba bw (3 * j + 1) uq w9 _ h9
              simp only [List.nil_append, List.length_nil, HLn.out] at hcn
              have HCn := Lib.hid hcn
              have H9 := Lib.hid h9
              clear h9 hcn
              go_wp2_with fail
              refine HCn.out.mono ?_
              rintro e w10 ⟨rfl, f10⟩
              have F10 : Fr (RS rg ba bw) w2 w10 := (F26.comp f9).via f10
              have H10 := Lib.hid (H9.out.fr f10 (fun q => q) (fun q => q) (fun q => q))
              clear f9 f10 F26
              have hq4 := run_eq_four
              go_wp2_with fail
              obtain ⟨W, hW⟩ : ∃ W, w10.alloc (.cells #[.int .i64 (j : Int), .int .i64 0, .int .i64 0, .int .i64 0] 38) = W := ⟨_, rfl⟩
              rw [hW]
              have fW : Fr Nil w10 W := by rw [← hW]; (repeat (first | (with_reducible exact Fr.refl _ _) | (with_reducible assumption) | (with_reducible exact Fr.of_nil (by assumption)) | (with_reducible refine Fr.drew ?_) | (with_reducible refine Fr.drewN ?_ _) | (with_reducible refine Fr.alloc ?_ _) | (with_reducible refine Fr.set ?_ _ _ (by first | (intros; omega) | (simp; done) | (simp; omega))) | (with_reducible refine Fr.via ?_ (by assumption)) | (with_reducible refine Fr.comp ?_ (by assumption))))
              clear hW
              have HL := Lib.hid (list_any rg ba bw (3 * j + 1) uq _ W (H10.out.fr fW (fun q => q) (fun q => q) (fun q => q)) (by omega))
              refine HL.out.mono ?_
              rintro e w11 ⟨⟨z0, z1, z2, z3, rfl, r0, _, _, _⟩, _, f11⟩
              have F11 := (F10.via fW).comp (ba_rs f11)
              have V11 := Lib.hid r0.toV
              clear r0
              go_wp2_with fail
              refine (ints_self L _ _ _ V11.out (HV.out.1.frS F11 HV.out.2.1) (by rw [HLn.out]; omega)).mono ?_
              rintro e w12 ⟨rfl, f12⟩
              have G : Fr Nil w w12 := F2.trans (F11.via f12) (fun q hq q' => (HW.out q hq q').elim)
              clear F2 F11 F10 fW f11 f12
              go_wp2
              go_ret
              exact ⟨rfl, by (repeat (first | (with_reducible exact Fr.refl _ _) | (with_reducible assumption) | (with_reducible exact Fr.of_nil (by assumption)) | (with_reducible refine Fr.drew ?_) | (with_reducible refine Fr.drewN ?_ _) | (with_reducible refine Fr.alloc ?_ _) | (with_reducible refine Fr.set ?_ _ _ (by first | (intros; omega) | (simp; done) | (simp; omega))) | (with_reducible refine Fr.via ?_ (by assumption)) | (with_reducible refine Fr.comp ?_ (by assumption))))⟩
end Go.Proofs.Ytlpdlhmdhlcdlaa
