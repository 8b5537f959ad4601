/-
  Contracts of Go's library at base 16: formatBits, FormatUint. No conditions but the table that TrailingZeros reads.
-/
import Derived.Test.YtcadbidccmiflaaDoorRows
import Derived.Test.YtcadbidccmiflaaDoorKit
import Derived.Deep.LoopGhost
import Derived.Laws.IdiomStrings
namespace Go.Proofs.YtcadbidccmiflaaDoor
set_option linter.unusedSimpArgs false
set_option linter.unusedVariables false
open Go.RowKit

/-- A digit to the base 16; a number's digits. -/
def hexd (n : Nat) : UInt8 := if n < 10 then UInt8.ofNat (48 + n) else UInt8.ofNat (87 + n)
def hexL (n : Nat) : List UInt8 := if n < 16 then [hexd n] else hexL (n / 16) ++ [hexd (n % 16)]
termination_by n
decreasing_by omega
theorem hexL_lt {n : Nat} (h : n < 16) : hexL n = [hexd n] := by rw [hexL, if_pos h]
theorem hexL_ge {n : Nat} (h : 16 ≤ n) : hexL n = hexL (n / 16) ++ [hexd (n % 16)] := by rw [hexL, if_neg (by omega)]
theorem hex_at (k : Nat) (h : k < 16) (h' : k < (⟨#[48, 49, 50, 51, 52, 53, 54, 55, 56, 57, 97, 98, 99, 100, 101, 102, 103, 104, 105, 106, 107, 108, 109, 110, 111, 112, 113, 114, 115, 116, 117, 118, 119, 120, 121, 122]⟩ : ByteArray).size) : (⟨#[48, 49, 50, 51, 52, 53, 54, 55, 56, 57, 97, 98, 99, 100, 101, 102, 103, 104, 105, 106, 107, 108, 109, 110, 111, 112, 113, 114, 115, 116, 117, 118, 119, 120, 121, 122]⟩ : ByteArray)[k]'h' = hexd k := by
  match k, h with
  | 0, _ | 1, _ | 2, _ | 3, _ | 4, _ | 5, _ | 6, _ | 7, _ | 8, _ | 9, _ | 10, _ | 11, _ | 12, _ | 13, _ | 14, _ | 15, _ => rfl
  | k + 16, h => omega
theorem wrap_u64 (a : Nat) (ha : a < 18446744073709551616) : IntKind.u64.wrap (a : Int) = (a : Int) := by
  simp [IntKind.wrap, IntKind.signed, IntKind.bits]; omega
theorem and_15 (v : Nat) (h : v < 18446744073709551616) : bits BinOp.and IntKind.u64 (v : Int) 15 = ((v % 16 : Nat) : Int) := by
  show IntKind.u64.wrap ((BitVec.ofInt 64 (v : Int) &&& BitVec.ofInt 64 15).toNat : Int) = _
  have e : (BitVec.ofInt 64 (v : Int)).toNat = v := by rw [BitVec.ofInt_natCast, BitVec.toNat_ofNat]; exact Nat.mod_eq_of_lt (by omega)
  have e' : (BitVec.ofInt 64 15).toNat = 2 ^ 4 - 1 := by decide
  rw [BitVec.toNat_and, e, e', Nat.and_two_pow_sub_one_eq_mod, wrap_u64 _ (by omega)]
theorem sliceAt_run {P : Program} (w : World) (t e : TypeId) (ht : P.underlying t = some (.array 65 e)) (he : (P.info? e).map (·.size) = some 1) (b j : Nat) (hj : j ≤ 64) :
    (Instr.sliceAt t (.pointer (some ⟨b, 0, none⟩)) (some (.int .i64 j)) none none).run P w = .ok (.slice (some ⟨b, j, none⟩) (65 - j) (65 - j)) w := by
  obtain ⟨i, hi, h1⟩ := Option.map_eq_some_iff.1 he
  have h0 : (0 : Int) ≤ (j : Int) := by omega
  have h2 : (j : Int) ≤ 65 := by omega
  have h3 : (65 : Nat) ≠ j := by omega
  simp [Instr.sliceAt, run_underlying ht, Instr.sliceBounds, run_sliceBound, h0, h2, h3, asAddr, sizeOf, typeInfo, hi, h1, go_sem]
theorem strOf (l : List UInt8) : strOfNums (l.map fun c => (c.toNat : Int)) = ⟨l.toArray⟩ := by
  unfold strOfNums
  rw [List.map_map]
  congr 1
  congr 1
  conv => rhs; rw [← List.map_id l]
  exact List.map_congr_left fun c _ => by simp
def bytesA (l : List UInt8) : Array Value := (l.map fun c => Value.int .u8 (c.toNat : Int)).toArray

theorem tz16_any (w : World) (hT : w.cell? ⟨8, 15, none⟩ = some (.int .u8 4)) :
    Calls Tryd.prog 103 #[.int .u64 16] w fun e w' => e = .returned (.int .i64 4) ∧ w = w' := by
  have e0 : IntKind.u64.wrap (bits BinOp.and IntKind.u64 16 (IntKind.u64.wrap (-16)) * 285870213051353865) / 288230376151711744 = 15 := by decide
  go_enter Tryd.func103, Tryd.ntmps103
  go_wp2
  go_ret
  exact ⟨rfl, rfl⟩
set_option maxRecDepth 100000 in
theorem formatBits_any (u : Nat) (w : World) (hu : u < 18446744073709551616) (hT : w.cell? ⟨8, 15, none⟩ = some (.int .u8 4)) :
    Calls Tryd.prog 87 #[.slice none 0 0, .int .u64 u, .int .i64 16, .bool false, .bool false] w fun e w' => e = .returned (.tuple #[.slice none 0 0, .string ⟨(hexL u).toArray⟩]) ∧ Fr Nil w w' := by
  go_enter Tryd.func87, Tryd.ntmps87
  go_wp2_with (first | (go_at_call 103; refine (tz16_any _ (Fr.cell (S := Nil) (by (repeat (first | (with_reducible exact Fr.refl _ _) | (with_reducible assumption) | (with_reducible exact Fr.of_nil (by assumption)) | (with_reducible refine Fr.drew ?_) | (with_reducible refine Fr.drewN ?_ _) | (with_reducible refine Fr.alloc ?_ _) | (with_reducible refine Fr.set ?_ _ _ (by first | (intros; omega) | (simp; done) | (simp; omega))) | (with_reducible refine Fr.via ?_ (by assumption)) | (with_reducible refine Fr.comp ?_ (by assumption))))) hT (by simp [Nil]))).mono ?_; rintro e w1 ⟨rfl, rfl⟩) | go_in)
  have hz : Tryd.zeroCells133 = bytesA (List.replicate 65 0) := by kernel_rfl
  rw [hz]
  clear hz
  go_loopg [1, 13] 16 (fun g s1 s13 wr => ∃ (v i : Nat) (L : List UInt8), i + L.length = 65 ∧ g + L.length = 16 ∧ (1 ≤ v ∨ L = []) ∧ v * 16 ^ L.length ≤ u ∧ s1 = .int .u64 v ∧ s13 = .int .i64 i ∧ hexL v ++ L = hexL u ∧ Blk wr w.heap.size (bytesA (List.replicate i 0 ++ L)) 133 ∧ Fr Nil w wr)
  case atStart => exact ⟨u, 65, [], rfl, rfl, .inr rfl, by simp, rfl, rfl, by simp, by rw [List.append_nil]; (unfold Blk; simp (disch := first | omega | (simp; done) | (simp; omega)) only [hp_drew, hp_drewN, hp_alloc, hp_other, hp_same, hp_new, upd_cells, Option.map_some]), by (repeat (first | (with_reducible exact Fr.refl _ _) | (with_reducible assumption) | (with_reducible exact Fr.of_nil (by assumption)) | (with_reducible refine Fr.drew ?_) | (with_reducible refine Fr.drewN ?_ _) | (with_reducible refine Fr.alloc ?_ _) | (with_reducible refine Fr.set ?_ _ _ (by first | (intros; omega) | (simp; done) | (simp; omega))) | (with_reducible refine Fr.via ?_ (by assumption)) | (with_reducible refine Fr.comp ?_ (by assumption))))⟩
  case round =>
    obtain ⟨v, i, L, hi, hg, h1, hv, rfl, rfl, hh, hb, hf⟩ := hrel
    obtain ⟨j, rfl⟩ : ∃ j, i = j + 1 := ⟨i - 1, by omega⟩
    have hlt := hb.lt
    have hv' : v < 18446744073709551616 := by
      have : v * 1 ≤ v * 16 ^ L.length := Nat.mul_le_mul_left v (Nat.one_le_pow _ _ (by omega))
      omega
    by_cases h16 : 16 ≤ v
    · have hk : L.length < 15 := by
        rcases Nat.lt_or_ge L.length 15 with q | q
        · exact q
        · have := Nat.pow_le_pow_right (n := 16) (by omega) q
          have : 16 * 16 ^ 15 ≤ v * 16 ^ L.length := Nat.mul_le_mul h16 this
          omega
      have hm := hex_at (v % 16) (by omega)
      have ha := and_15 v (by omega)
      have hc := hb.cell j
      have hz := hb.free j
      have e1 : (bytesA (List.replicate (j + 1) 0 ++ L))[j]? = some (.int .u8 0) := by
        unfold bytesA
        rw [List.getElem?_toArray, List.getElem?_map, List.getElem?_append_left (by simp), List.getElem?_replicate, if_pos (by omega)]
        rfl
      rw [e1] at hc
      have HV : v / 16 * 16 ^ (L.length + 1) ≤ u := by
        have e : v / 16 * 16 ≤ v := Nat.div_mul_le_self v 16
        have e2 : v / 16 * 16 ^ (L.length + 1) = v / 16 * 16 * 16 ^ L.length := by rw [Nat.pow_succ, Nat.mul_assoc, Nat.mul_comm (16 ^ L.length)]
        rw [e2]
        exact Nat.le_trans (Nat.mul_le_mul_right _ e) hv
      have HV' := Lib.hid HV
      have HB : Hid (Blk (wr.setCell ⟨w.heap.size, j, none⟩ (.int .u8 ((hexd (v % 16)).toNat : Int))) w.heap.size (bytesA (List.replicate j 0 ++ hexd (v % 16) :: L)) 133) := Lib.hid (by
        refine hb.put ?_
        rw [List.replicate_succ']
        simp [bytesA, List.setIfInBounds_toArray, List.set_append])
      have HH : Hid (hexL (v / 16) ++ hexd (v % 16) :: L = hexL u) := Lib.hid (by rw [← hh, hexL_ge h16]; simp)
      clear hb hh e1 HV hv
      go_wp2
      go_roundg (gk - 1)
      case measure => omega
      case rel => exact ⟨v / 16, j, hexd (v % 16) :: L, by simp; omega, by simp; omega, .inl (by omega), HV'.out, by simp, rfl, HH.out, HB.out, by (repeat (first | (with_reducible exact Fr.refl _ _) | (with_reducible assumption) | (with_reducible exact Fr.of_nil (by assumption)) | (with_reducible refine Fr.drew ?_) | (with_reducible refine Fr.drewN ?_ _) | (with_reducible refine Fr.alloc ?_ _) | (with_reducible refine Fr.set ?_ _ _ (by first | (intros; omega) | (simp; done) | (simp; omega))) | (with_reducible refine Fr.via ?_ (by assumption)) | (with_reducible refine Fr.comp ?_ (by assumption))))⟩
    · have hk : L.length < 16 := by
        rcases Nat.lt_or_ge L.length 16 with q | q
        · exact q
        · exfalso
          have p0 := Nat.pow_le_pow_right (n := 16) (by omega) q
          rcases h1 with h1 | rfl
          · have : 1 * 16 ^ 16 ≤ v * 16 ^ L.length := Nat.mul_le_mul h1 p0
            omega
          · simp at q
      have hm := hex_at v (by omega)
      have hc := hb.cell j
      have hz := hb.free j
      have e1 : (bytesA (List.replicate (j + 1) 0 ++ L))[j]? = some (.int .u8 0) := by
        unfold bytesA
        rw [List.getElem?_toArray, List.getElem?_map, List.getElem?_append_left (by simp), List.getElem?_replicate, if_pos (by omega)]
        rfl
      rw [e1] at hc
      have HB : Hid (Blk (wr.setCell ⟨w.heap.size, j, none⟩ (.int .u8 ((hexd v).toNat : Int))) w.heap.size (bytesA (List.replicate j 0 ++ hexd v :: L)) 133) := Lib.hid (by
        refine hb.put ?_
        rw [List.replicate_succ']
        simp [bytesA, List.setIfInBounds_toArray, List.set_append])
      have HH : Hid (hexd v :: L = hexL u) := Lib.hid (by rw [← hh, hexL_lt (by omega)]; simp)
      clear hb hh e1 hv h1
      have hsl := fun w' => sliceAt_run (P := Tryd.prog) w' 133 5 Tryd.underlying133 (by kernel_rfl) w.heap.size j (by omega)
      have hcv := run_convert_bytes_arg (P := Tryd.prog) (wr.setCell ⟨w.heap.size, j, none⟩ (.int .u8 ((hexd v).toNat : Int))) 89 5 Tryd.underlying89 Tryd.underlying5 w.heap.size j (65 - j) (65 - j) ((hexd v :: L).map fun c => (c.toNat : Int)) (by simp; omega) (fun i hi => by
        rw [HB.out.cell]
        unfold bytesA
        have hi' : i < (hexd v :: L).length := by simp; omega
        rw [List.getElem?_toArray, List.getElem?_map, List.getElem?_append_right (by simp), List.length_replicate, Nat.add_sub_cancel_left]
        rw [List.getD_eq_getElem?_getD, List.getElem?_map, List.getElem?_eq_getElem hi']
        rfl) 9 Tryd.underlying9
      rw [strOf, HH.out] at hcv
      go_wp2
      go_ret2
      exact ⟨rfl, by (repeat (first | (with_reducible exact Fr.refl _ _) | (with_reducible assumption) | (with_reducible exact Fr.of_nil (by assumption)) | (with_reducible refine Fr.drew ?_) | (with_reducible refine Fr.drewN ?_ _) | (with_reducible refine Fr.alloc ?_ _) | (with_reducible refine Fr.set ?_ _ _ (by first | (intros; omega) | (simp; done) | (simp; omega))) | (with_reducible refine Fr.via ?_ (by assumption)) | (with_reducible refine Fr.comp ?_ (by assumption))))⟩
theorem formatUint_any (u : Nat) (w : World) (hu : u < 18446744073709551616) (hT : w.cell? ⟨8, 15, none⟩ = some (.int .u8 4)) :
    Calls Tryd.prog 45 #[.int .u64 u, .int .i64 16] w fun e w' => e = .returned (.string ⟨(hexL u).toArray⟩) ∧ Fr Nil w w' := by
  go_enter Tryd.func45, Tryd.ntmps45
  go_wp2_with (first | (go_at_call 87; refine (formatBits_any u _ hu hT).mono ?_; rintro e w1 ⟨rfl, f1⟩) | go_in)
  go_ret
  exact ⟨rfl, by (repeat (first | (with_reducible exact Fr.refl _ _) | (with_reducible assumption) | (with_reducible exact Fr.of_nil (by assumption)) | (with_reducible refine Fr.drew ?_) | (with_reducible refine Fr.drewN ?_ _) | (with_reducible refine Fr.alloc ?_ _) | (with_reducible refine Fr.set ?_ _ _ (by first | (intros; omega) | (simp; done) | (simp; omega))) | (with_reducible refine Fr.via ?_ (by assumption)) | (with_reducible refine Fr.comp ?_ (by assumption))))⟩
end Go.Proofs.YtcadbidccmiflaaDoor
