/-
  Layer 7: ends of lines ahead. Conditions: the library's variables.
-/
import Derived.Test.YtomcmelgioamlaaDoorL07
import Derived.Test.YtomcmelgioamlaaDoorLexP
namespace Go.Proofs.YtomcmelgioamlaaDoor
set_option linter.unusedSimpArgs false
set_option linter.unusedVariables false
open Go.RowKit

def ends (k : Nat) : ByteArray := ⟨(List.replicate k 10).toArray⟩
theorem ends_size (k : Nat) : (ends k).size = k := by simp [ends, ByteArray.size]
theorem ends_more (k : Nat) : ends k ++ ⟨#[10]⟩ = ends (k + 1) := by
  apply bytes_eq
  simp [ends, ByteArray.data_append, List.replicate_succ']
set_option maxRecDepth 100000 in
set_option maxHeartbeats 2000000 in
theorem lexLines_any (s : ByteArray) (n : Nat) (w : World) (hW : LibW w) (hn : n < 256) : Calls Tryd.prog 8 #[.string s, .int .u8 n] w fun e w' => e = .returned (.bool true) ∧ Fr Nil w w' := by
  have hav := awake_any w hW
  have HA := Lib.hid hav
  have HW := Lib.hid hW
  clear hav hW
  by_cases hs : s.size ≤ 3000
  · have t1 : ¬ (3000 : Int) < (s.size : Int) := by omega
    have z2 : (ends n ++ s).data.toList = List.replicate n 10 ++ s.data.toList := by simp [ends, ByteArray.data_append]
    have zs : (ends n ++ s).size ≤ 100000 := by rw [ByteArray.size_append, ends_size]; omega
    have h1 := fun w h => lex_any s w h (by omega)
    have h2 := fun w h => lex_any (ends n ++ s) w h zs
    rw [z2, lexF_ahead] at h2
    have hl := lexF_lines s.data.toList
    rw [size_of] at hl
    have hle := lexF_size s.data.toList
    generalize lexF s.data.toList = R at *
    have H1 := Lib.hid h1
    have H2 := Lib.hid h2
    have HL := Lib.hid hl
    have sa : ∀ w, (Op.stringOp .add (ends n) s).run Tryd.prog w = .ok (.string (ends n ++ s)) w := fun w => run_string_add_sum w _ _ (by rw [ends_size]; omega)
    clear h1 h2 hl z2 zs
    go_enter Tryd.func8, Tryd.ntmps8
    go_wp2_with fail
    refine (HA.out).mono ?_
    rintro e w1 ⟨rfl, f1⟩
    go_wp2_with fail
    go_loopw [5, 6] (fun sv iv wr => ∃ k : Nat, k ≤ n ∧ sv = .string (ends k) ∧ iv = .int .i64 k ∧ Fr Nil w wr) (fun _ iv _ => n - (intOf iv).toNat)
    case atStart => exact ⟨0, by omega, rfl, rfl, f1⟩
    case round =>
      obtain ⟨k, hk, rfl, rfl, hw⟩ := hrel
      by_cases hlt : k < n
      · have i1 : (k : Int) < (n : Int) := by omega
        have sb : ∀ w, (Op.stringOp .add (ends k) ⟨#[10]⟩).run Tryd.prog w = .ok (.string (ends (k + 1))) w := fun w => by
          rw [← ends_more]
          exact run_string_add_sum w _ _ (by rw [ends_size]; have : (⟨#[10]⟩ : ByteArray).size = 1 := rfl; omega)
        clear sa
        go_wp2
        go_roundw
        case rel => exact ⟨k + 1, by omega, rfl, by go_num, hw⟩
        case measure => simp [intOf]; omega
      · obtain rfl : k = n := by omega
        have i1 : ¬ ((k : Int) < (k : Int)) := by omega
        go_wp2_with fail
        refine (H1.out _ (HW.out.fr hw)).mono ?_
        rintro e w3 ⟨v1, rfl, hv1, f3⟩
        have f23 : Fr Nil w w3 := hw.trans f3 (fun _ _ q => q)
        go_wp2_with fail
        refine (H2.out _ (HW.out.fr f23)).mono ?_
        rintro e w4 ⟨v2, rfl, hv2, f4⟩
        have f24 : Fr Nil w w4 := f23.trans f4 (fun _ _ q => q)
        have hv1' := hv1.fr f4
        obtain ⟨L, hL⟩ : ∃ L, R.toks.length = L := ⟨_, rfl⟩
        have hm1 : (shiftV k R).toks = R.toks.map (shiftT k) := rfl
        have hm2 : (shiftV k R).err = R.err := rfl
        have hm3 : (shiftV k R).line = if R.err = 0 then 0 else R.line + k := rfl
        rw [hm1] at hv2
        rw [hm2, hm3]
        obtain ⟨a1, c1, rfl⟩ := owns_shape hv1'
        obtain ⟨a2, c2, rfl⟩ := owns_shape hv2
        rw [List.length_map, hL]
        have HV1 := Lib.hid hv1'
        have HV2 := Lib.hid hv2
        have HLn := Lib.hid hL
        have hl2 := HL.out.2
        have hl3 : IntKind.i64.wrap ((R.line : Int) + (k : Int)) = ((R.line + k : Nat) : Int) := by rw [IntKind.wrap_i64]; omega
        have hL4 : L ≤ 4096 := by omega
        clear hv1 hv1' hv2 hL hm1 hm2 hm3 H1 H2 sa hw f23 f3 f4 hle
        by_cases her : R.err = 0
        · rw [if_pos her, her]
          clear her hl3
          go_wp2_with fail
          go_loopg [13] L (fun g iv wr => ∃ j : Nat, g = L - j ∧ j ≤ L ∧ iv = .int .i64 j ∧ Fr Nil w4 wr)
          case atStart => exact ⟨0, rfl, by omega, rfl, Fr.refl _ _⟩
          case round =>
            obtain ⟨j, rfl, hj, rfl, hw4⟩ := hrel
            by_cases hjl : j < L
            · have hjr : j < R.toks.length := by rw [HLn.out]; exact hjl
              have hpos : 0 < R.toks.length := by omega
              obtain ⟨g1, d1, e1⟩ := toks_form HV1.out hpos
              obtain ⟨g2, d2, e2⟩ := toks_form HV2.out (by simpa using hpos)
              injection e1 with e1 _ e1'
              injection e2 with e2 _ e2'
              subst e1 e2 e1' e2'
              have p := HV1.out.fr hw4
              have q := HV2.out.fr hw4
              have p0 := tok_cell p rfl j hjr 0 (by omega)
              have p1 := tok_cell p rfl j hjr 1 (by omega)
              have p2 := tok_cell p rfl j hjr 2 (by omega)
              have p3 := tok_cell p rfl j hjr 3 (by omega)
              have p4 := tok_cell p rfl j hjr 4 (by omega)
              have q0 := tok_cell q rfl j (by simpa using hjr) 0 (by omega)
              have q1 := tok_cell q rfl j (by simpa using hjr) 1 (by omega)
              have q2 := tok_cell q rfl j (by simpa using hjr) 2 (by omega)
              have q3 := tok_cell q rfl j (by simpa using hjr) 3 (by omega)
              have q4 := tok_cell q rfl j (by simpa using hjr) 4 (by omega)
              simp only [List.getElem_map, shiftT, tokCells, Nat.add_zero, List.getElem?_cons_zero, List.getElem?_cons_succ] at p0 p1 p2 p3 p4 q0 q1 q2 q3 q4
              have hln := HL.out.1 _ (List.getElem_mem hjr)
              have hw5 : IntKind.i64.wrap (((R.toks[j].line + k : Nat) : Int) - (k : Int)) = (R.toks[j].line : Int) := by rw [IntKind.wrap_i64]; omega
              generalize R.toks[j].kind = t0 at *
              generalize (⟨R.toks[j].text.toArray⟩ : ByteArray) = t1 at *
              generalize R.toks[j].flt = t2 at *
              generalize (R.toks[j].bits : Int) = t3 at *
              generalize R.toks[j].line = t4 at *
              have i0 : (0 : Int) ≤ (j : Int) := by omega
              have i1 : (j : Int) < (L : Int) := by omega
              have lt1 : g1 < wr.heap.size := World.block_lt_of_cell? wr _ p0
              have lt2 : g2 < wr.heap.size := World.block_lt_of_cell? wr _ q0
              clear p q hjr hpos
              go_wp2_with fail
              go_quiet (fail)
              go_wp2
              go_roundg (L - (j + 1))
              case rel => exact ⟨j + 1, rfl, by omega, by go_num, by (repeat (first | (with_reducible exact Fr.refl _ _) | (with_reducible assumption) | (with_reducible exact Fr.of_nil (by assumption)) | (with_reducible refine Fr.drew ?_) | (with_reducible refine Fr.drewN ?_ _) | (with_reducible refine Fr.alloc ?_ _) | (with_reducible refine Fr.set ?_ _ _ (by first | (intros; omega) | (simp; done) | (simp; omega))) | (with_reducible refine Fr.via ?_ (by assumption)) | (with_reducible refine Fr.comp ?_ (by assumption))))⟩
              case measure => omega
            · obtain rfl : j = L := by omega
              have i1 : ¬ ((j : Int) < (j : Int)) := by omega
              go_wp2
              go_ret
              exact ⟨rfl, by (repeat (first | (with_reducible exact Fr.refl _ _) | (with_reducible assumption) | (with_reducible exact Fr.of_nil (by assumption)) | (with_reducible refine Fr.drew ?_) | (with_reducible refine Fr.drewN ?_ _) | (with_reducible refine Fr.alloc ?_ _) | (with_reducible refine Fr.set ?_ _ _ (by first | (intros; omega) | (simp; done) | (simp; omega))) | (with_reducible refine Fr.via ?_ (by assumption)) | (with_reducible refine Fr.comp ?_ (by assumption))))⟩
        · rw [if_neg her]
          have her2 : (R.err != 0) = true := by simpa using her
          generalize R.err = er at *
          clear her
          go_wp2_with fail
          go_loopg [13] L (fun g iv wr => ∃ j : Nat, g = L - j ∧ j ≤ L ∧ iv = .int .i64 j ∧ Fr Nil w4 wr)
          case atStart => exact ⟨0, rfl, by omega, rfl, Fr.refl _ _⟩
          case round =>
            obtain ⟨j, rfl, hj, rfl, hw4⟩ := hrel
            by_cases hjl : j < L
            · have hjr : j < R.toks.length := by rw [HLn.out]; exact hjl
              have hpos : 0 < R.toks.length := by omega
              obtain ⟨g1, d1, e1⟩ := toks_form HV1.out hpos
              obtain ⟨g2, d2, e2⟩ := toks_form HV2.out (by simpa using hpos)
              injection e1 with e1 _ e1'
              injection e2 with e2 _ e2'
              subst e1 e2 e1' e2'
              have p := HV1.out.fr hw4
              have q := HV2.out.fr hw4
              have p0 := tok_cell p rfl j hjr 0 (by omega)
              have p1 := tok_cell p rfl j hjr 1 (by omega)
              have p2 := tok_cell p rfl j hjr 2 (by omega)
              have p3 := tok_cell p rfl j hjr 3 (by omega)
              have p4 := tok_cell p rfl j hjr 4 (by omega)
              have q0 := tok_cell q rfl j (by simpa using hjr) 0 (by omega)
              have q1 := tok_cell q rfl j (by simpa using hjr) 1 (by omega)
              have q2 := tok_cell q rfl j (by simpa using hjr) 2 (by omega)
              have q3 := tok_cell q rfl j (by simpa using hjr) 3 (by omega)
              have q4 := tok_cell q rfl j (by simpa using hjr) 4 (by omega)
              simp only [List.getElem_map, shiftT, tokCells, Nat.add_zero, List.getElem?_cons_zero, List.getElem?_cons_succ] at p0 p1 p2 p3 p4 q0 q1 q2 q3 q4
              have hln := HL.out.1 _ (List.getElem_mem hjr)
              have hw5 : IntKind.i64.wrap (((R.toks[j].line + k : Nat) : Int) - (k : Int)) = (R.toks[j].line : Int) := by rw [IntKind.wrap_i64]; omega
              generalize R.toks[j].kind = t0 at *
              generalize (⟨R.toks[j].text.toArray⟩ : ByteArray) = t1 at *
              generalize R.toks[j].flt = t2 at *
              generalize (R.toks[j].bits : Int) = t3 at *
              generalize R.toks[j].line = t4 at *
              have i0 : (0 : Int) ≤ (j : Int) := by omega
              have i1 : (j : Int) < (L : Int) := by omega
              have lt1 : g1 < wr.heap.size := World.block_lt_of_cell? wr _ p0
              have lt2 : g2 < wr.heap.size := World.block_lt_of_cell? wr _ q0
              clear p q hjr hpos
              go_wp2_with fail
              go_quiet (fail)
              go_wp2
              go_roundg (L - (j + 1))
              case rel => exact ⟨j + 1, rfl, by omega, by go_num, by (repeat (first | (with_reducible exact Fr.refl _ _) | (with_reducible assumption) | (with_reducible exact Fr.of_nil (by assumption)) | (with_reducible refine Fr.drew ?_) | (with_reducible refine Fr.drewN ?_ _) | (with_reducible refine Fr.alloc ?_ _) | (with_reducible refine Fr.set ?_ _ _ (by first | (intros; omega) | (simp; done) | (simp; omega))) | (with_reducible refine Fr.via ?_ (by assumption)) | (with_reducible refine Fr.comp ?_ (by assumption))))⟩
              case measure => omega
            · obtain rfl : j = L := by omega
              have i1 : ¬ ((j : Int) < (j : Int)) := by omega
              go_wp2
              go_ret
              exact ⟨rfl, by (repeat (first | (with_reducible exact Fr.refl _ _) | (with_reducible assumption) | (with_reducible exact Fr.of_nil (by assumption)) | (with_reducible refine Fr.drew ?_) | (with_reducible refine Fr.drewN ?_ _) | (with_reducible refine Fr.alloc ?_ _) | (with_reducible refine Fr.set ?_ _ _ (by first | (intros; omega) | (simp; done) | (simp; omega))) | (with_reducible refine Fr.via ?_ (by assumption)) | (with_reducible refine Fr.comp ?_ (by assumption))))⟩
  · have t1 : (3000 : Int) < (s.size : Int) := by omega
    go_enter Tryd.func8, Tryd.ntmps8
    go_wp2_with fail
    refine (HA.out).mono ?_
    rintro e w1 ⟨rfl, f1⟩
    go_wp2
    go_ret
    exact ⟨rfl, by (repeat (first | (with_reducible exact Fr.refl _ _) | (with_reducible assumption) | (with_reducible exact Fr.of_nil (by assumption)) | (with_reducible refine Fr.drew ?_) | (with_reducible refine Fr.drewN ?_ _) | (with_reducible refine Fr.alloc ?_ _) | (with_reducible refine Fr.set ?_ _ _ (by first | (intros; omega) | (simp; done) | (simp; omega))) | (with_reducible refine Fr.via ?_ (by assumption)) | (with_reducible refine Fr.comp ?_ (by assumption))))⟩
theorem lexLines_wf (s : ByteArray) (n : Int) (w : World) (hW : LibW w) (h : (Lit.int .u8 n).wf = true) : Calls Tryd.prog 8 #[.string s, .int .u8 n] w fun e w' => e = .returned (.bool true) ∧ Fr Nil w w' := by
  have e1 : IntKind.u8.min = 0 := rfl
  have e2 : IntKind.u8.max = 255 := rfl
  simp [Lit.wf, e1, e2] at h
  obtain ⟨m, rfl⟩ := Int.eq_ofNat_of_zero_le h.1
  exact lexLines_any s m w hW (by omega)
end Go.Proofs.YtomcmelgioamlaaDoor
