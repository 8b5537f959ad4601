/-
  Layer 7: two sources with an end of line between. Conditions: the library's variables.
-/
import Derived.Test.YtomcmelgioamlaaDoorL07
import Derived.Test.YtomcmelgioamlaaDoorLexJ
import Derived.Deep.DeepCutAuto
namespace Go.Proofs.YtomcmelgioamlaaDoor
set_option linter.unusedSimpArgs false
set_option linter.unusedVariables false
open Go.RowKit

theorem ends_next (s : ByteArray) (k : Nat) (h : k < s.size) : endsN (s.data.toList.take (k + 1)) = endsN (s.data.toList.take k) + if s[k] = 10 then 1 else 0 := by
  rw [take_next s k h]
  unfold endsN
  rw [List.count_append]
  congr 1
  split
  · rename_i q; rw [q]; rfl
  · rename_i q; rw [List.count_cons_of_ne (fun r => q r)]; rfl
theorem ends_step {n0 n1 : Nat} (h : IntKind.i64.wrap (1 + (n0 : Int) + 1) = 1 + (n1 : Int)) (hn : n0 ≤ 5000) : Value.int IntKind.i64 (1 + (n0 : Int) + 1) = Value.int IntKind.i64 ((1 + n1 : Nat) : Int) := by
  rw [IntKind.wrap_i64] at h
  have e : (1 + (n0 : Int) + 1) = ((1 + n1 : Nat) : Int) := by omega
  rw [e]
theorem ends_le (l : List UInt8) : endsN l ≤ l.length := List.count_le_length
set_option maxRecDepth 100000 in
set_option maxHeartbeats 4000000 in
/-- What the law sees of its four sources, all of them right or not. -/
theorem lexJoins_in (s t r : ByteArray) (w : World) (hW : LibW w) (hs : s.size ≤ 2000) (ht : t.size ≤ 2000) (hr : r.size ≤ 500) : Calls Tryd.prog 5 #[.string s, .string t, .string r] w fun e w' => e = .returned (.bool true) ∧ Fr Nil w w' := by
  have hav := awake_any w hW
  have HA := Lib.hid hav
  have HW := Lib.hid hW
  clear hav hW
  have t1 : ¬ (2000 : Int) < (s.size : Int) := by omega
  have t2 : ¬ (2000 : Int) < (t.size : Int) := by omega
  have t3 : ¬ (500 : Int) < (r.size : Int) := by omega
  go_enter Tryd.func5, Tryd.ntmps5
  go_wp2_with fail
  refine (HA.out).mono ?_
  rintro e w1 ⟨rfl, f1⟩
  clear HA
  go_wp2_with fail
  go_loopw [7, 8] (fun nv iv wr => ∃ k : Nat, k ≤ s.size ∧ nv = .int .i64 ((1 + endsN (s.data.toList.take k) : Nat) : Int) ∧ iv = .int .i64 k ∧ Fr Nil w wr) (fun _ iv _ => s.size - (intOf iv).toNat)
  case atStart => exact ⟨0, by omega, rfl, rfl, f1⟩
  case round =>
    obtain ⟨k, hk, rfl, rfl, hw⟩ := hrel
    by_cases hlt : k < s.size
    · have i0 : (0 : Int) ≤ (k : Int) := by omega
      have i1 : (k : Int) < (s.size : Int) := by omega
      have hn := ends_next s k hlt
      have hle := ends_le (s.data.toList.take k)
      have hlk : (s.data.toList.take k).length ≤ k := by simp; omega
      have hw1 : IntKind.i64.wrap (((1 + endsN (s.data.toList.take k) : Nat) : Int) + 1) = ((1 + (endsN (s.data.toList.take k) + 1) : Nat) : Int) := by rw [IntKind.wrap_i64]; omega
      by_cases h10 : s[k] = 10
      · have hb : s[k].toNat = 10 := by rw [h10]; rfl
        rw [if_pos h10] at hn
        rw [← hn] at hw1
        clear hn h10
        obtain ⟨n1, hn1⟩ : ∃ n1, endsN (s.data.toList.take (k + 1)) = n1 := ⟨_, rfl⟩
        rw [hn1] at hw1
        have HN1 := Lib.hid hn1
        clear hn1
        generalize endsN (s.data.toList.take k) = n0 at *
        go_wp2
        go_roundw
        case rel => exact ⟨k + 1, by omega, by rw [HN1.out]; exact ends_step hw1 (by omega), by go_num, hw⟩
        case measure => simp [intOf]; omega
      · have hb : ¬ s[k].toNat = 10 := fun q => h10 (UInt8.toNat_inj.1 q)
        rw [if_neg h10, Nat.add_zero] at hn
        clear hw1
        have HN := Lib.hid hn
        clear hn h10
        generalize endsN (s.data.toList.take k) = n0 at *
        go_wp2
        go_roundw
        case rel => exact ⟨k + 1, by omega, by rw [HN.out]; rfl, by go_num, hw⟩
        case measure => simp [intOf]; omega
    · obtain rfl : k = s.size := by omega
      have i1 : ¬ ((s.size : Int) < (s.size : Int)) := by omega
      rw [show s.data.toList.take s.size = s.data.toList from List.take_of_length_le (by rw [size_of]; omega)]
      have hle := ends_le s.data.toList
      rw [size_of] at hle
      obtain ⟨N, hN⟩ : ∃ N, 1 + endsN s.data.toList = N := ⟨_, rfl⟩
      have hN2 : N ≤ 2001 := by omega
      rw [hN]
      clear hle f1
      have HN := Lib.hid hN
      clear hN
      go_wp2_with fail
      go_loopw [9] (fun iv wr => ∃ k : Nat, k ≤ r.size ∧ (∀ c ∈ r.data.toList.take k, c ≠ 10) ∧ iv = .int .i64 k ∧ Fr Nil w wr) (fun iv _ => r.size - (intOf iv).toNat)
      case atStart => exact ⟨0, by omega, by simp, rfl, hw⟩
      case round =>
        obtain ⟨k, hk, hall, rfl, hw⟩ := hrel
        by_cases hlt : k < r.size
        · have i0 : (0 : Int) ≤ (k : Int) := by omega
          have i1 : (k : Int) < (r.size : Int) := by omega
          have HALL := Lib.hid hall
          clear hall
          by_cases h10 : r[k] = 10
          · have hb : r[k].toNat = 10 := by rw [h10]; rfl
            clear h10
            go_wp2
            go_ret
            exact ⟨rfl, hw⟩
          · have hb : ¬ r[k].toNat = 10 := fun q => h10 (UInt8.toNat_inj.1 q)
            have HNE := Lib.hid h10
            clear h10
            go_wp2
            go_roundw
            case rel =>
              refine ⟨k + 1, by omega, ?_, by go_num, hw⟩
              rw [take_next r k hlt]
              intro c hc
              rcases List.mem_append.1 hc with q | q
              · exact HALL.out c q
              · obtain rfl : c = r[k] := by simpa using q
                exact HNE.out
            case measure => simp [intOf]; omega
        · obtain rfl : k = r.size := by omega
          have i1 : ¬ ((r.size : Int) < (r.size : Int)) := by omega
          rw [show r.data.toList.take r.size = r.data.toList from List.take_of_length_le (by rw [size_of]; omega)] at hall
          have ea : (s ++ ⟨#[10]⟩ ++ t).data.toList = s.data.toList ++ 10 :: t.data.toList := by simp [ByteArray.data_append]
          have eb : (s ++ ⟨#[10, 45, 45]⟩ ++ r ++ ⟨#[10]⟩ ++ t).data.toList = s.data.toList ++ 10 :: 45 :: 45 :: (r.data.toList ++ 10 :: t.data.toList) := by simp [ByteArray.data_append]
          have z1 : (⟨#[10]⟩ : ByteArray).size = 1 := rfl
          have z3 : (⟨#[10, 45, 45]⟩ : ByteArray).size = 3 := rfl
          have h1 := fun w h => lex_any s w h (by omega)
          have h2 := fun w h => lex_any t w h (by omega)
          have h3 := fun w h => lex_any (s ++ ⟨#[10]⟩ ++ t) w h (by simp only [ByteArray.size_append, z1]; omega)
          have h4 := fun w h => lex_any (s ++ ⟨#[10, 45, 45]⟩ ++ r ++ ⟨#[10]⟩ ++ t) w h (by simp only [ByteArray.size_append, z1, z3]; omega)
          have hskip := skipF_len false t.data.toList 1
          rw [ea, lexF_join _ _ (by rw [size_of] at hskip ⊢; omega), HN.out] at h3
          rw [eb, lexF_joins _ _ _ hall (by rw [size_of, size_of]; omega), HN.out] at h4
          have sa1 : ∀ w, (Op.stringOp .add s ⟨#[10]⟩).run Tryd.prog w = .ok (.string (s ++ ⟨#[10]⟩)) w := fun w => run_string_add_sum w _ _ (by omega)
          have sa2 : ∀ w, (Op.stringOp .add (s ++ ⟨#[10]⟩) t).run Tryd.prog w = .ok (.string (s ++ ⟨#[10]⟩ ++ t)) w := fun w => run_string_add_sum w _ _ (by simp only [ByteArray.size_append, z1]; omega)
          have sb1 : ∀ w, (Op.stringOp .add s ⟨#[10, 45, 45]⟩).run Tryd.prog w = .ok (.string (s ++ ⟨#[10, 45, 45]⟩)) w := fun w => run_string_add_sum w _ _ (by omega)
          have sb2 : ∀ w, (Op.stringOp .add (s ++ ⟨#[10, 45, 45]⟩) r).run Tryd.prog w = .ok (.string (s ++ ⟨#[10, 45, 45]⟩ ++ r)) w := fun w => run_string_add_sum w _ _ (by simp only [ByteArray.size_append, z3]; omega)
          have sb3 : ∀ w, (Op.stringOp .add (s ++ ⟨#[10, 45, 45]⟩ ++ r) ⟨#[10]⟩).run Tryd.prog w = .ok (.string (s ++ ⟨#[10, 45, 45]⟩ ++ r ++ ⟨#[10]⟩)) w := fun w => run_string_add_sum w _ _ (by simp only [ByteArray.size_append, z3, z1]; omega)
          have sb4 : ∀ w, (Op.stringOp .add (s ++ ⟨#[10, 45, 45]⟩ ++ r ++ ⟨#[10]⟩) t).run Tryd.prog w = .ok (.string (s ++ ⟨#[10, 45, 45]⟩ ++ r ++ ⟨#[10]⟩ ++ t)) w := fun w => run_string_add_sum w _ _ (by simp only [ByteArray.size_append, z3, z1]; omega)
          have hl1 := lexF_lines s.data.toList
          have hl2 := lexF_lines t.data.toList
          have he1 := lexF_err s.data.toList
          have he2 := lexF_err t.data.toList
          have hk1 := lexF_takes s.data.toList
          have hk2 := lexF_takes t.data.toList
          rw [size_of] at hl1 hl2 hk1 hk2
          clear ea eb hskip hall HN
          obtain ⟨⟨A, ae, al⟩, hA⟩ : ∃ R, lexF s.data.toList = R := ⟨_, rfl⟩
          obtain ⟨⟨B, be, bl⟩, hB⟩ : ∃ R, lexF t.data.toList = R := ⟨_, rfl⟩
          simp only [hA] at h1 h3 h4 hl1 he1 hk1
          simp only [hB] at h2 h3 h4 hl2 he2 hk2
          generalize (s ++ ⟨#[10]⟩ ++ t) = S1 at *
          generalize (s ++ ⟨#[10, 45, 45]⟩ ++ r ++ ⟨#[10]⟩ ++ t) = S2 at *
          generalize (s ++ ⟨#[10]⟩) = S3 at *
          generalize (s ++ ⟨#[10, 45, 45]⟩ ++ r ++ ⟨#[10]⟩) = S4 at *
          generalize (s ++ ⟨#[10, 45, 45]⟩ ++ r) = S5 at *
          generalize (s ++ ⟨#[10, 45, 45]⟩) = S6 at *
          have H1 := Lib.hid h1
          have H2 := Lib.hid h2
          clear hA hB h1 h2
          obtain ⟨⟨C, ce, cl⟩, hC⟩ : ∃ R, joinV N ⟨A, ae, al⟩ ⟨B, be, bl⟩ = R := ⟨_, rfl⟩
          obtain ⟨⟨D, de, dl⟩, hD⟩ : ∃ R, joinV N ⟨A, ae, al⟩ (shiftV 1 ⟨B, be, bl⟩) = R := ⟨_, rfl⟩
          simp only [hC] at h3
          simp only [hD] at h4
          have H3 := Lib.hid h3
          have H4 := Lib.hid h4
          clear h3 h4
          go_wp2_with fail
          refine (H1.out _ (HW.out.fr hw)).mono ?_
          rintro e w3 ⟨v1, rfl, hv1, f3⟩
          have g3 : Fr Nil w w3 := hw.trans f3 (fun _ _ q => q)
          go_wp2_with fail
          refine (H2.out _ (HW.out.fr g3)).mono ?_
          rintro e w4 ⟨v2, rfl, hv2, f4⟩
          have g4 : Fr Nil w w4 := g3.trans f4 (fun _ _ q => q)
          go_wp2_with fail
          refine (H3.out _ (HW.out.fr g4)).mono ?_
          rintro e w5 ⟨v3, rfl, hv3, f5⟩
          have g5 : Fr Nil w w5 := g4.trans f5 (fun _ _ q => q)
          go_wp2_with fail
          refine (H4.out _ (HW.out.fr g5)).mono ?_
          rintro e w6 ⟨v4, rfl, hv4, f6⟩
          have g6 : Fr Nil w w6 := g5.trans f6 (fun _ _ q => q)
          have hv1' := ((hv1.fr f4).fr f5).fr f6
          have hv2' := (hv2.fr f5).fr f6
          have hv3' := hv3.fr f6
          clear hv1 hv2 hv3 f3 f4 f5 f6 g3 g4 g5 H1 H2 H3 H4 sa1 sa2 sb1 sb2 sb3 sb4 hw
          by_cases hae : ae = 0
          · subst hae
            by_cases hbe : be = 0
            · subst hbe
              simp only [joinV, aheadV, shiftV, if_pos] at hC hD
              cases hC
              cases hD
              clear he1 he2
              obtain ⟨La, hLa⟩ : ∃ La, A.length = La := ⟨_, rfl⟩
              obtain ⟨Lb, hLb⟩ : ∃ Lb, B.length = Lb := ⟨_, rfl⟩
              have k1 : La ≤ 2000 := by omega
              have k2 : Lb ≤ 2000 := by omega
              have lc : (A ++ B.map (shiftT N)).length = La + Lb := by simp [hLa, hLb]
              have ld : (A ++ (B.map (shiftT 1)).map (shiftT N)).length = La + Lb := by simp [hLa, hLb]
              obtain ⟨a1, c1, rfl⟩ := owns_shape hv1'
              obtain ⟨a2, c2, rfl⟩ := owns_shape hv2'
              obtain ⟨a3, c3, rfl⟩ := owns_shape hv3'
              obtain ⟨a4, c4, rfl⟩ := owns_shape hv4
              rw [hLa, hLb, lc, ld]
              have HV1 := Lib.hid hv1'
              have HV2 := Lib.hid hv2'
              have HV3 := Lib.hid hv3'
              have HV4 := Lib.hid hv4
              have HLA := Lib.hid hLa
              have HLB := Lib.hid hLb
              have HLC := Lib.hid lc
              have HLD := Lib.hid ld
              have HL2 := Lib.hid hl2
              have e0 : IntKind.i64.wrap ((La : Int) + (Lb : Int)) = ((La + Lb : Nat) : Int) := by rw [IntKind.wrap_i64]; omega
              clear hv1' hv2' hv3' hv4 hLa hLb lc ld hl1 hl2 hk1 hk2
              obtain ⟨L, hL⟩ : ∃ L, La + Lb = L := ⟨_, rfl⟩
              rw [hL] at e0
              rw [hL]
              have HL := Lib.hid hL
              have hL4 : L ≤ 4000 := by omega
              clear hL
              go_wp2_with fail
              go_loopg [22] L (fun g iv wr => ∃ j : Nat, g = L - j ∧ j ≤ L ∧ iv = .int .i64 j ∧ Fr Nil w6 wr)
              case atStart => exact ⟨0, rfl, by omega, rfl, Fr.refl _ _⟩
              case round =>
                obtain ⟨j, rfl, hj, rfl, hw4⟩ := hrel
                by_cases hjl : j < L
                · have hLL := HL.out
                  have hposC : 0 < (A ++ B.map (shiftT N)).length := by rw [HLC.out]; omega
                  have hposD : 0 < (A ++ (B.map (shiftT 1)).map (shiftT N)).length := by rw [HLD.out]; omega
                  have hjc : j < (A ++ B.map (shiftT N)).length := by rw [HLC.out]; omega
                  have hjd : j < (A ++ (B.map (shiftT 1)).map (shiftT N)).length := by rw [HLD.out]; omega
                  obtain ⟨g3, d3, e3⟩ := toks_form HV3.out hposC
                  obtain ⟨g4, d4, e4⟩ := toks_form HV4.out hposD
                  injection e3 with e3 _ e3'
                  injection e4 with e4 _ e4'
                  subst e3 e4 e3' e4'
                  have p3 := HV3.out.fr hw4
                  have p4 := HV4.out.fr hw4
                  have q0 := tok_cell p3 rfl j hjc 0 (by omega)
                  have q1 := tok_cell p3 rfl j hjc 1 (by omega)
                  have q2 := tok_cell p3 rfl j hjc 2 (by omega)
                  have q3 := tok_cell p3 rfl j hjc 3 (by omega)
                  have q4 := tok_cell p3 rfl j hjc 4 (by omega)
                  have r0 := tok_cell p4 rfl j hjd 0 (by omega)
                  have r1 := tok_cell p4 rfl j hjd 1 (by omega)
                  have r2 := tok_cell p4 rfl j hjd 2 (by omega)
                  have r3 := tok_cell p4 rfl j hjd 3 (by omega)
                  have r4 := tok_cell p4 rfl j hjd 4 (by omega)
                  have i0 : (0 : Int) ≤ (j : Int) := by omega
                  have i1 : (j : Int) < (L : Int) := by omega
                  clear p3 p4
                  by_cases hja : j < La
                  · have hjA : j < A.length := by rw [HLA.out]; exact hja
                    have hposA : 0 < A.length := by omega
                    obtain ⟨g1, d1, e1⟩ := toks_form HV1.out hposA
                    injection e1 with e1 _ e1'
                    subst e1 e1'
                    have p1 := HV1.out.fr hw4
                    have s0 := tok_cell p1 rfl j hjA 0 (by omega)
                    have s1 := tok_cell p1 rfl j hjA 1 (by omega)
                    have s2 := tok_cell p1 rfl j hjA 2 (by omega)
                    have s3 := tok_cell p1 rfl j hjA 3 (by omega)
                    have s4 := tok_cell p1 rfl j hjA 4 (by omega)
                    rw [List.getElem_append_left hjA] at q0 q1 q2 q3 q4 r0 r1 r2 r3 r4
                    simp only [tokCells, Nat.add_zero, List.getElem?_cons_zero, List.getElem?_cons_succ] at q0 q1 q2 q3 q4 r0 r1 r2 r3 r4 s0 s1 s2 s3 s4
                    generalize A[j].kind = t0 at *
                    generalize (⟨A[j].text.toArray⟩ : ByteArray) = t1 at *
                    generalize A[j].flt = t2 at *
                    generalize (A[j].bits : Int) = t3 at *
                    generalize (A[j].line : Int) = t4 at *
                    have i2 : (j : Int) < (La : Int) := by omega
                    have lt1 : g1 < wr.heap.size := World.block_lt_of_cell? wr _ s0
                    have lt3 : g3 < wr.heap.size := World.block_lt_of_cell? wr _ q0
                    have lt4 : g4 < wr.heap.size := World.block_lt_of_cell? wr _ r0
                    clear p1 hjA hposA hposC hposD hjc hjd hLL
                    go_wp2_with fail
                    go_cut [23, 24] (fun xv yv wx => ∃ bx bz : Nat, xv = .pointer (some ⟨bx, 0, none⟩) ∧ yv = .pointer (some ⟨bz, 0, none⟩) ∧ bx ≠ bz ∧ wr.heap.size ≤ bx ∧ wr.heap.size ≤ bz ∧ Blk wx bx #[.int .i64 t0, .string t1, .bool t2, .int .u64 t3, .int .i64 t4] 35 ∧ Blk wx bz #[.int .i64 t0, .string t1, .bool t2, .int .u64 t3, .int .i64 t4] 35 ∧ Fr Nil wr wx)
                    case first =>
                      go_region
                      all_goals
                        go_wp2_with fail
                        go_meet
                        case rel => exact ⟨_, _, rfl, rfl, by omega, by omega, by omega, by (unfold Blk; simp (disch := first | omega | (simp; done) | (simp; omega)) only [hp_drew, hp_drewN, hp_alloc, hp_other, hp_same, hp_new, upd_cells, Option.map_some]), by (unfold Blk; simp (disch := first | omega | (simp; done) | (simp; omega)) only [hp_drew, hp_drewN, hp_alloc, hp_other, hp_same, hp_new, upd_cells, Option.map_some]), by (repeat (first | (with_reducible exact Fr.refl _ _) | (with_reducible assumption) | (with_reducible exact Fr.of_nil (by assumption)) | (with_reducible refine Fr.drew ?_) | (with_reducible refine Fr.drewN ?_ _) | (with_reducible refine Fr.alloc ?_ _) | (with_reducible refine Fr.set ?_ _ _ (by first | (intros; omega) | (simp; done) | (simp; omega))) | (with_reducible refine Fr.via ?_ (by assumption)) | (with_reducible refine Fr.comp ?_ (by assumption))))⟩
                    case rest =>
                      obtain ⟨bx, bz, rfl, rfl, hne, hbx, hbz, gx, gz, fx⟩ := hcut
                      have hne' : bz ≠ bx := fun q => hne q.symm
                      have x0 := gx.cell 0
                      have x1 := gx.cell 1
                      have x2 := gx.cell 2
                      have x3 := gx.cell 3
                      have x4 := gx.cell 4
                      have y0 := gz.cell 0
                      have y1 := gz.cell 1
                      have y2 := gz.cell 2
                      have y3 := gz.cell 3
                      have y4 := gz.cell 4
                      simp at x0 x1 x2 x3 x4 y0 y1 y2 y3 y4
                      have fx4 := gx.free 4
                      have fy4 := gz.free 4
                      have hbx2 := gx.lt
                      have hbz2 := gz.lt
                      replace s0 := fx.cell s0 (by simp [Nil])
                      replace s1 := fx.cell s1 (by simp [Nil])
                      replace s2 := fx.cell s2 (by simp [Nil])
                      replace s3 := fx.cell s3 (by simp [Nil])
                      replace s4 := fx.cell s4 (by simp [Nil])
                      have hg : g1 ≠ bx ∧ g1 ≠ bz := by omega
                      clear q0 q1 q2 q3 q4 r0 r1 r2 r3 r4 gx gz
                      go_wp2_with fail
                      go_quiet (fail)
                      go_wp2
                      go_roundg (L - (j + 1))
                      case rel => exact ⟨j + 1, rfl, by omega, by go_num, by (repeat (first | (with_reducible exact Fr.refl _ _) | (with_reducible assumption) | (with_reducible exact Fr.of_nil (by assumption)) | (with_reducible refine Fr.drew ?_) | (with_reducible refine Fr.drewN ?_ _) | (with_reducible refine Fr.alloc ?_ _) | (with_reducible refine Fr.set ?_ _ _ (by first | (intros; omega) | (simp; done) | (simp; omega))) | (with_reducible refine Fr.via ?_ (by assumption)) | (with_reducible refine Fr.comp ?_ (by assumption))))⟩
                      case measure => omega
                  · obtain ⟨i, hi⟩ : ∃ i, j - La = i := ⟨_, rfl⟩
                    have hjB : i < B.length := by rw [HLB.out]; omega
                    have hposB : 0 < B.length := by omega
                    obtain ⟨g2, d2, e2⟩ := toks_form HV2.out hposB
                    injection e2 with e2 _ e2'
                    subst e2 e2'
                    have p2 := HV2.out.fr hw4
                    have s0 := tok_cell p2 rfl i hjB 0 (by omega)
                    have s1 := tok_cell p2 rfl i hjB 1 (by omega)
                    have s2 := tok_cell p2 rfl i hjB 2 (by omega)
                    have s3 := tok_cell p2 rfl i hjB 3 (by omega)
                    have s4 := tok_cell p2 rfl i hjB 4 (by omega)
                    have eC : (A ++ B.map (shiftT N))[j]'hjc = shiftT N B[i] := by
                      rw [List.getElem_append_right (by rw [HLA.out]; omega), List.getElem_map]
                      congr 1
                      congr 1
                      rw [HLA.out]; exact hi
                    have eD : (A ++ (B.map (shiftT 1)).map (shiftT N))[j]'hjd = shiftT N (shiftT 1 B[i]) := by
                      rw [List.getElem_append_right (by rw [HLA.out]; omega), List.getElem_map, List.getElem_map]
                      congr 2
                      congr 1
                      rw [HLA.out]; exact hi
                    rw [eC] at q0 q1 q2 q3 q4
                    rw [eD] at r0 r1 r2 r3 r4
                    simp only [shiftT, tokCells, Nat.add_zero, List.getElem?_cons_zero, List.getElem?_cons_succ] at q0 q1 q2 q3 q4 r0 r1 r2 r3 r4 s0 s1 s2 s3 s4
                    have hline := HL2.out.1 _ (List.getElem_mem hjB)
                    obtain ⟨l, hl⟩ : ∃ l, B[i].line = l := ⟨_, rfl⟩
                    rw [hl] at q4 r4 s4 hline
                    have w1 : IntKind.i64.wrap ((l : Int) + (N : Int)) = ((l + N : Nat) : Int) := by rw [IntKind.wrap_i64]; omega
                    have w2 : IntKind.i64.wrap (((l + N : Nat) : Int) + 1) = ((l + 1 + N : Nat) : Int) := by rw [IntKind.wrap_i64]; omega
                    have w3' : IntKind.i64.wrap ((j : Int) - (La : Int)) = (i : Int) := by rw [IntKind.wrap_i64]; omega
                    have j0 : (0 : Int) ≤ (i : Int) := by omega
                    have j1 : (i : Int) < (Lb : Int) := by have := HLB.out; omega
                    generalize l + 1 + N = m2 at *
                    generalize l + N = m1 at *
                    generalize B[i].kind = t0 at *
                    generalize (⟨B[i].text.toArray⟩ : ByteArray) = t1 at *
                    generalize B[i].flt = t2 at *
                    generalize (B[i].bits : Int) = t3 at *
                    have i2 : ¬ (j : Int) < (La : Int) := by omega
                    have lt1 : g2 < wr.heap.size := World.block_lt_of_cell? wr _ s0
                    have lt3 : g3 < wr.heap.size := World.block_lt_of_cell? wr _ q0
                    have lt4 : g4 < wr.heap.size := World.block_lt_of_cell? wr _ r0
                    clear p2 hjB hposB hposC hposD hjc hjd hLL eC eD hl hi hline
                    go_wp2_with fail
                    go_cut [23, 24] (fun xv yv wx => ∃ bx bz : Nat, xv = .pointer (some ⟨bx, 0, none⟩) ∧ yv = .pointer (some ⟨bz, 0, none⟩) ∧ bx ≠ bz ∧ wr.heap.size ≤ bx ∧ wr.heap.size ≤ bz ∧ Blk wx bx #[.int .i64 t0, .string t1, .bool t2, .int .u64 t3, .int .i64 (m1 : Int)] 35 ∧ Blk wx bz #[.int .i64 t0, .string t1, .bool t2, .int .u64 t3, .int .i64 (m2 : Int)] 35 ∧ Fr Nil wr wx)
                    case first =>
                      go_region
                      all_goals
                        go_wp2_with fail
                        go_meet
                        case rel => exact ⟨_, _, rfl, rfl, by omega, by omega, by omega, by (unfold Blk; simp (disch := first | omega | (simp; done) | (simp; omega)) only [hp_drew, hp_drewN, hp_alloc, hp_other, hp_same, hp_new, upd_cells, Option.map_some]), by (unfold Blk; simp (disch := first | omega | (simp; done) | (simp; omega)) only [hp_drew, hp_drewN, hp_alloc, hp_other, hp_same, hp_new, upd_cells, Option.map_some]), by (repeat (first | (with_reducible exact Fr.refl _ _) | (with_reducible assumption) | (with_reducible exact Fr.of_nil (by assumption)) | (with_reducible refine Fr.drew ?_) | (with_reducible refine Fr.drewN ?_ _) | (with_reducible refine Fr.alloc ?_ _) | (with_reducible refine Fr.set ?_ _ _ (by first | (intros; omega) | (simp; done) | (simp; omega))) | (with_reducible refine Fr.via ?_ (by assumption)) | (with_reducible refine Fr.comp ?_ (by assumption))))⟩
                    case rest =>
                      obtain ⟨bx, bz, rfl, rfl, hne, hbx, hbz, gx, gz, fx⟩ := hcut
                      have hne' : bz ≠ bx := fun q => hne q.symm
                      have x0 := gx.cell 0
                      have x1 := gx.cell 1
                      have x2 := gx.cell 2
                      have x3 := gx.cell 3
                      have x4 := gx.cell 4
                      have y0 := gz.cell 0
                      have y1 := gz.cell 1
                      have y2 := gz.cell 2
                      have y3 := gz.cell 3
                      have y4 := gz.cell 4
                      simp at x0 x1 x2 x3 x4 y0 y1 y2 y3 y4
                      have fx4 := gx.free 4
                      have fy4 := gz.free 4
                      have hbx2 := gx.lt
                      have hbz2 := gz.lt
                      replace s0 := fx.cell s0 (by simp [Nil])
                      replace s1 := fx.cell s1 (by simp [Nil])
                      replace s2 := fx.cell s2 (by simp [Nil])
                      replace s3 := fx.cell s3 (by simp [Nil])
                      replace s4 := fx.cell s4 (by simp [Nil])
                      have hg : g2 ≠ bx ∧ g2 ≠ bz := by omega
                      have hg' : g2 < wc.heap.size := World.block_lt_of_cell? wc _ s0
                      clear q0 q1 q2 q3 q4 r0 r1 r2 r3 r4 gx gz
                      go_wp2_with fail
                      go_region
                      all_goals
                        go_wp2
                        go_roundg (L - (j + 1))
                        case rel => exact ⟨j + 1, rfl, by omega, by go_num, Fr.trans hw4 (show Fr Nil wr _ from by (repeat (first | (with_reducible exact Fr.refl _ _) | (with_reducible assumption) | (with_reducible exact Fr.of_nil (by assumption)) | (with_reducible refine Fr.drew ?_) | (with_reducible refine Fr.drewN ?_ _) | (with_reducible refine Fr.alloc ?_ _) | (with_reducible refine Fr.set ?_ _ _ (by first | (intros; omega) | (simp; done) | (simp; omega))) | (with_reducible refine Fr.via ?_ (by assumption)) | (with_reducible refine Fr.comp ?_ (by assumption))))) (fun _ _ q => q)⟩
                        case measure => omega
                · obtain rfl : j = L := by omega
                  have i1 : ¬ ((j : Int) < (j : Int)) := by omega
                  go_wp2
                  go_ret
                  exact ⟨rfl, by (repeat (first | (with_reducible exact Fr.refl _ _) | (with_reducible assumption) | (with_reducible exact Fr.of_nil (by assumption)) | (with_reducible refine Fr.drew ?_) | (with_reducible refine Fr.drewN ?_ _) | (with_reducible refine Fr.alloc ?_ _) | (with_reducible refine Fr.set ?_ _ _ (by first | (intros; omega) | (simp; done) | (simp; omega))) | (with_reducible refine Fr.via ?_ (by assumption)) | (with_reducible refine Fr.comp ?_ (by assumption))))⟩
            · simp only [joinV, aheadV, shiftV, if_pos, if_neg hbe] at hC hD
              cases hC
              cases hD
              have hB0 := he2.2 hbe
              have hb2 : (be != 0) = true := by simpa using hbe
              have w1 : IntKind.i64.wrap ((bl : Int) + (N : Int)) = ((bl + N : Nat) : Int) := by rw [IntKind.wrap_i64]; omega
              have w2 : IntKind.i64.wrap (((bl + N : Nat) : Int) + 1) = ((bl + 1 + N : Nat) : Int) := by rw [IntKind.wrap_i64]; omega
              clear hv1' hv2' hv3' hv4 he1 he2 hbe
              generalize bl + 1 + N = m2 at *
              generalize bl + N = m1 at *
              go_wp2
              go_ret
              exact ⟨rfl, by (repeat (first | (with_reducible exact Fr.refl _ _) | (with_reducible assumption) | (with_reducible exact Fr.of_nil (by assumption)) | (with_reducible refine Fr.drew ?_) | (with_reducible refine Fr.drewN ?_ _) | (with_reducible refine Fr.alloc ?_ _) | (with_reducible refine Fr.set ?_ _ _ (by first | (intros; omega) | (simp; done) | (simp; omega))) | (with_reducible refine Fr.via ?_ (by assumption)) | (with_reducible refine Fr.comp ?_ (by assumption))))⟩
          · have ha2 : (ae != 0) = true := by simpa using hae
            simp only [joinV, if_neg hae] at hC hD
            cases hC
            cases hD
            clear hv1' hv2' hv3' hv4 he1 he2 hae
            go_wp2
            go_ret
            exact ⟨rfl, by (repeat (first | (with_reducible exact Fr.refl _ _) | (with_reducible assumption) | (with_reducible exact Fr.of_nil (by assumption)) | (with_reducible refine Fr.drew ?_) | (with_reducible refine Fr.drewN ?_ _) | (with_reducible refine Fr.alloc ?_ _) | (with_reducible refine Fr.set ?_ _ _ (by first | (intros; omega) | (simp; done) | (simp; omega))) | (with_reducible refine Fr.via ?_ (by assumption)) | (with_reducible refine Fr.comp ?_ (by assumption))))⟩
set_option maxRecDepth 100000 in
theorem lexJoins_any (s t r : ByteArray) (w : World) (hW : LibW w) : Calls Tryd.prog 5 #[.string s, .string t, .string r] w fun e w' => e = .returned (.bool true) ∧ Fr Nil w w' := by
  by_cases h : s.size ≤ 2000 ∧ t.size ≤ 2000 ∧ r.size ≤ 500
  · exact lexJoins_in s t r w hW h.1 h.2.1 h.2.2
  · have h' : (2000 : Int) < (s.size : Int) ∨ (¬ (2000 : Int) < (s.size : Int) ∧ (2000 : Int) < (t.size : Int)) ∨ (¬ (2000 : Int) < (s.size : Int) ∧ ¬ (2000 : Int) < (t.size : Int) ∧ (500 : Int) < (r.size : Int)) := by omega
    have hav := awake_any w hW
    rcases h' with h1 | ⟨h1, h2⟩ | ⟨h1, h2, h3⟩
    all_goals
      clear h
      go_enter Tryd.func5, Tryd.ntmps5
      go_wp2_with fail
      refine hav.mono ?_
      rintro e w1 ⟨rfl, f1⟩
      go_wp2
      go_ret
      exact ⟨rfl, by (repeat (first | (with_reducible exact Fr.refl _ _) | (with_reducible assumption) | (with_reducible exact Fr.of_nil (by assumption)) | (with_reducible refine Fr.drew ?_) | (with_reducible refine Fr.drewN ?_ _) | (with_reducible refine Fr.alloc ?_ _) | (with_reducible refine Fr.set ?_ _ _ (by first | (intros; omega) | (simp; done) | (simp; omega))) | (with_reducible refine Fr.via ?_ (by assumption)) | (with_reducible refine Fr.comp ?_ (by assumption))))⟩
end Go.Proofs.YtomcmelgioamlaaDoor
