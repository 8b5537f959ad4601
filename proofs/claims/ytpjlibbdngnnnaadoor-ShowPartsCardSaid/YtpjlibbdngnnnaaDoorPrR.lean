/-
  Contracts of Go's library at base 16: formatBits, FormatUint. No conditions but the table that TrailingZeros reads.
  Contracts of package num: Print; what the tables of Go's library hold. No conditions but these tables.
-/
import Derived.Test.YtpjlibbdngnnnaaDoorBaseP
import Derived.Deep.LoopGhost
import Derived.Laws.IdiomStrings
import Derived.Test.YtpjlibbdngnnnaaDoorShelf
namespace Go.Proofs.YtpjlibbdngnnnaaDoor
set_option linter.unusedSimpArgs false
set_option linter.unusedVariables false
open Go.RowKit

theorem sliceAt_run {P : Program} (w : World) (t e : TypeId) (ht : P.underlying t = some (.array 65 e)) (he : (P.info? e).map (·.size) = some 1) (b j : Nat) (hj : j ≤ 64) :
    (Instr.sliceAt t (.pointer (some ⟨b, 0, none⟩)) (some (.int .i64 j)) none none).run P w = .ok (.slice (some ⟨b, j, none⟩) (65 - j) (65 - j)) w := by
  obtain ⟨i, hi, h1⟩ := Option.map_eq_some_iff.1 he
  have h0 : (0 : Int) ≤ (j : Int) := by omega
  have h2 : (j : Int) ≤ 65 := by omega
  have h3 : (65 : Nat) ≠ j := by omega
  simp [Instr.sliceAt, run_underlying ht, Instr.sliceBounds, run_sliceBound, h0, h2, h3, asAddr, sizeOf, typeInfo, hi, h1, go_sem]
theorem strOf (l : List UInt8) : strOfNums (l.map fun c => (c.toNat : Int)) = ⟨l.toArray⟩ := by
  unfold strOfNums
  rw [List.map_map]
  congr 1
  congr 1
  conv => rhs; rw [← List.map_id l]
  exact List.map_congr_left fun c _ => by simp
def bytesA (l : List UInt8) : Array Value := (l.map fun c => Value.int .u8 (c.toNat : Int)).toArray

theorem tz16_any (w : World) (hT : w.cell? ⟨4, 15, none⟩ = some (.int .u8 4)) :
    Calls Tryd.prog 153 #[.int .u64 16] w fun e w' => e = .returned (.int .i64 4) ∧ w = w' := by
  have e0 : IntKind.u64.wrap (bits BinOp.and IntKind.u64 16 (IntKind.u64.wrap (-16)) * 285870213051353865) / 288230376151711744 = 15 := by decide
  go_enter Tryd.func153, Tryd.ntmps153
  go_wp2
  go_ret
  exact ⟨rfl, rfl⟩
set_option maxRecDepth 100000 in
theorem formatBits_any (u : Nat) (w : World) (hu : u < 18446744073709551616) (hT : w.cell? ⟨4, 15, none⟩ = some (.int .u8 4)) :
    Calls Tryd.prog 144 #[.slice none 0 0, .int .u64 u, .int .i64 16, .bool false, .bool false] w fun e w' => e = .returned (.tuple #[.slice none 0 0, .string ⟨(hexL u).toArray⟩]) ∧ Fr Nil w w' := by
  go_enter Tryd.func144, Tryd.ntmps144
  go_wp2_with (first | (go_at_call 153; refine (tz16_any _ (Fr.cell (S := Nil) (by (repeat (first | (with_reducible exact Fr.refl _ _) | (with_reducible assumption) | (with_reducible exact Fr.of_nil (by assumption)) | (with_reducible refine Fr.drew ?_) | (with_reducible refine Fr.drewN ?_ _) | (with_reducible refine Fr.alloc ?_ _) | (with_reducible refine Fr.set ?_ _ _ (by first | (intros; omega) | (simp; done) | (simp; omega))) | (with_reducible refine Fr.via ?_ (by assumption)) | (with_reducible refine Fr.comp ?_ (by assumption))))) hT (by simp [Nil]))).mono ?_; rintro e w1 ⟨rfl, rfl⟩) | go_in)
  have hz : Tryd.zeroCells197 = bytesA (List.replicate 65 0) := by kernel_rfl
  rw [hz]
  clear hz
  go_loopg [1, 13] 16 (fun g s1 s13 wr => ∃ (v i : Nat) (L : List UInt8), i + L.length = 65 ∧ g + L.length = 16 ∧ (1 ≤ v ∨ L = []) ∧ v * 16 ^ L.length ≤ u ∧ s1 = .int .u64 v ∧ s13 = .int .i64 i ∧ hexL v ++ L = hexL u ∧ Blk wr w.heap.size (bytesA (List.replicate i 0 ++ L)) 197 ∧ Fr Nil w wr)
  case atStart => exact ⟨u, 65, [], rfl, rfl, .inr rfl, by simp, rfl, rfl, by simp, by rw [List.append_nil]; (unfold Blk; simp (disch := first | omega | (simp; done) | (simp; omega)) only [hp_drew, hp_drewN, hp_alloc, hp_other, hp_same, hp_new, upd_cells, Option.map_some]), by (repeat (first | (with_reducible exact Fr.refl _ _) | (with_reducible assumption) | (with_reducible exact Fr.of_nil (by assumption)) | (with_reducible refine Fr.drew ?_) | (with_reducible refine Fr.drewN ?_ _) | (with_reducible refine Fr.alloc ?_ _) | (with_reducible refine Fr.set ?_ _ _ (by first | (intros; omega) | (simp; done) | (simp; omega))) | (with_reducible refine Fr.via ?_ (by assumption)) | (with_reducible refine Fr.comp ?_ (by assumption))))⟩
  case round =>
    obtain ⟨v, i, L, hi, hg, h1, hv, rfl, rfl, hh, hb, hf⟩ := hrel
    obtain ⟨j, rfl⟩ : ∃ j, i = j + 1 := ⟨i - 1, by omega⟩
    have hlt := hb.lt
    have hv' : v < 18446744073709551616 := by
      have : v * 1 ≤ v * 16 ^ L.length := Nat.mul_le_mul_left v (Nat.one_le_pow _ _ (by omega))
      omega
    by_cases h16 : 16 ≤ v
    · have hk : L.length < 15 := by
        rcases Nat.lt_or_ge L.length 15 with q | q
        · exact q
        · have := Nat.pow_le_pow_right (n := 16) (by omega) q
          have : 16 * 16 ^ 15 ≤ v * 16 ^ L.length := Nat.mul_le_mul h16 this
          omega
      have hm := hex_at (v % 16) (by omega)
      have ha := and_15 v (by omega)
      have hc := hb.cell j
      have hz := hb.free j
      have e1 : (bytesA (List.replicate (j + 1) 0 ++ L))[j]? = some (.int .u8 0) := by
        unfold bytesA
        rw [List.getElem?_toArray, List.getElem?_map, List.getElem?_append_left (by simp), List.getElem?_replicate, if_pos (by omega)]
        rfl
      rw [e1] at hc
      have HV : v / 16 * 16 ^ (L.length + 1) ≤ u := by
        have e : v / 16 * 16 ≤ v := Nat.div_mul_le_self v 16
        have e2 : v / 16 * 16 ^ (L.length + 1) = v / 16 * 16 * 16 ^ L.length := by rw [Nat.pow_succ, Nat.mul_assoc, Nat.mul_comm (16 ^ L.length)]
        rw [e2]
        exact Nat.le_trans (Nat.mul_le_mul_right _ e) hv
      have HV' := Lib.hid HV
      have HB : Hid (Blk (wr.setCell ⟨w.heap.size, j, none⟩ (.int .u8 ((hexd (v % 16)).toNat : Int))) w.heap.size (bytesA (List.replicate j 0 ++ hexd (v % 16) :: L)) 197) := Lib.hid (by
        refine hb.put ?_
        rw [List.replicate_succ']
        simp [bytesA, List.setIfInBounds_toArray, List.set_append])
      have HH : Hid (hexL (v / 16) ++ hexd (v % 16) :: L = hexL u) := Lib.hid (by rw [← hh, hexL_ge h16]; simp)
      clear hb hh e1 HV hv
      go_wp2
      go_roundg (gk - 1)
      case measure => omega
      case rel => exact ⟨v / 16, j, hexd (v % 16) :: L, by simp; omega, by simp; omega, .inl (by omega), HV'.out, by simp, rfl, HH.out, HB.out, by (repeat (first | (with_reducible exact Fr.refl _ _) | (with_reducible assumption) | (with_reducible exact Fr.of_nil (by assumption)) | (with_reducible refine Fr.drew ?_) | (with_reducible refine Fr.drewN ?_ _) | (with_reducible refine Fr.alloc ?_ _) | (with_reducible refine Fr.set ?_ _ _ (by first | (intros; omega) | (simp; done) | (simp; omega))) | (with_reducible refine Fr.via ?_ (by assumption)) | (with_reducible refine Fr.comp ?_ (by assumption))))⟩
    · have hk : L.length < 16 := by
        rcases Nat.lt_or_ge L.length 16 with q | q
        · exact q
        · exfalso
          have p0 := Nat.pow_le_pow_right (n := 16) (by omega) q
          rcases h1 with h1 | rfl
          · have : 1 * 16 ^ 16 ≤ v * 16 ^ L.length := Nat.mul_le_mul h1 p0
            omega
          · simp at q
      have hm := hex_at v (by omega)
      have hc := hb.cell j
      have hz := hb.free j
      have e1 : (bytesA (List.replicate (j + 1) 0 ++ L))[j]? = some (.int .u8 0) := by
        unfold bytesA
        rw [List.getElem?_toArray, List.getElem?_map, List.getElem?_append_left (by simp), List.getElem?_replicate, if_pos (by omega)]
        rfl
      rw [e1] at hc
      have HB : Hid (Blk (wr.setCell ⟨w.heap.size, j, none⟩ (.int .u8 ((hexd v).toNat : Int))) w.heap.size (bytesA (List.replicate j 0 ++ hexd v :: L)) 197) := Lib.hid (by
        refine hb.put ?_
        rw [List.replicate_succ']
        simp [bytesA, List.setIfInBounds_toArray, List.set_append])
      have HH : Hid (hexd v :: L = hexL u) := Lib.hid (by rw [← hh, hexL_lt (by omega)]; simp)
      clear hb hh e1 hv h1
      have hsl := fun w' => sliceAt_run (P := Tryd.prog) w' 197 5 Tryd.underlying197 (by kernel_rfl) w.heap.size j (by omega)
      have hcv := run_convert_bytes_arg (P := Tryd.prog) (wr.setCell ⟨w.heap.size, j, none⟩ (.int .u8 ((hexd v).toNat : Int))) 44 5 Tryd.underlying44 Tryd.underlying5 w.heap.size j (65 - j) (65 - j) ((hexd v :: L).map fun c => (c.toNat : Int)) (by simp; omega) (fun i hi => by
        rw [HB.out.cell]
        unfold bytesA
        have hi' : i < (hexd v :: L).length := by simp; omega
        rw [List.getElem?_toArray, List.getElem?_map, List.getElem?_append_right (by simp), List.length_replicate, Nat.add_sub_cancel_left]
        rw [List.getD_eq_getElem?_getD, List.getElem?_map, List.getElem?_eq_getElem hi']
        rfl) 9 Tryd.underlying9
      rw [strOf, HH.out] at hcv
      go_wp2
      go_ret2
      exact ⟨rfl, by (repeat (first | (with_reducible exact Fr.refl _ _) | (with_reducible assumption) | (with_reducible exact Fr.of_nil (by assumption)) | (with_reducible refine Fr.drew ?_) | (with_reducible refine Fr.drewN ?_ _) | (with_reducible refine Fr.alloc ?_ _) | (with_reducible refine Fr.set ?_ _ _ (by first | (intros; omega) | (simp; done) | (simp; omega))) | (with_reducible refine Fr.via ?_ (by assumption)) | (with_reducible refine Fr.comp ?_ (by assumption))))⟩
theorem formatUint_any (u : Nat) (w : World) (hu : u < 18446744073709551616) (hT : w.cell? ⟨4, 15, none⟩ = some (.int .u8 4)) :
    Calls Tryd.prog 116 #[.int .u64 u, .int .i64 16] w fun e w' => e = .returned (.string ⟨(hexL u).toArray⟩) ∧ Fr Nil w w' := by
  go_enter Tryd.func116, Tryd.ntmps116
  go_wp2_with (first | (go_at_call 144; refine (formatBits_any u _ hu hT).mono ?_; rintro e w1 ⟨rfl, f1⟩) | go_in)
  go_ret
  exact ⟨rfl, by (repeat (first | (with_reducible exact Fr.refl _ _) | (with_reducible assumption) | (with_reducible exact Fr.of_nil (by assumption)) | (with_reducible refine Fr.drew ?_) | (with_reducible refine Fr.drewN ?_ _) | (with_reducible refine Fr.alloc ?_ _) | (with_reducible refine Fr.set ?_ _ _ (by first | (intros; omega) | (simp; done) | (simp; omega))) | (with_reducible refine Fr.via ?_ (by assumption)) | (with_reducible refine Fr.comp ?_ (by assumption))))⟩
end Go.Proofs.YtpjlibbdngnnnaaDoor

namespace Go.Proofs.YtpjlibbdngnnnaaDoor
set_option linter.unusedSimpArgs false
set_option linter.unusedVariables false
open Go.RowKit

/-- The tables that Go's library reads here. -/
structure Tabs (w : World) : Prop where
  pow : Lib.TabIs Tryd.prog w "internal/strconv.uint64pow10" .u64 Lib.pow10Tab
  tz : w.cell? ⟨4, 15, none⟩ = some (.int .u8 4)
theorem globalPow : Tryd.prog.globalNamed "internal/strconv.uint64pow10" = some 1 := by kernel_rfl
theorem Tabs.fr {w w1 : World} (h : Tabs w) (f : Fr Nil w w1) : Tabs w1 := by
  refine ⟨?_, f.cell h.tz (by simp [Nil])⟩
  have hp := h.pow
  unfold Lib.TabIs World.var? at *
  rw [globalPow] at *
  simp only [Option.bind_some] at *
  have hl : 1 < w.heap.size := by
    rcases Nat.lt_or_ge 1 w.heap.size with q | q
    · exact q
    · rw [Array.getElem?_eq_none q] at hp; cases hp
  rw [f.block _ hl (fun q => q)]
  exact hp
theorem Fr.grow (w : World) (k : Nat) (os : Array Obj) : Fr Nil w (Go.Sort.grow (w.drewN k) os) :=
  ⟨rfl, rfl, rfl, by show w.heap.size ≤ (w.heap ++ os).size; simp, fun b hb _ => by
    show (w.heap ++ os)[b]? = w.heap[b]?
    rw [Array.getElem?_append_left hb]⟩
theorem repeat_one (c : UInt8) : ∀ n, Lib.repeatL [c] n = List.replicate n c
  | 0 => rfl
  | n + 1 => by rw [Lib.repeatL, repeat_one c n, List.replicate_succ]; rfl
theorem print_int (x : Int) (w : World) (hT : Tabs w) :
    Calls Tryd.prog 85 #[.agg #[.bool false, .int .u64 x]] w fun e w' => e = .returned (.string ⟨(Lib.itoa (wrap64 x)).toArray⟩) ∧ Fr Nil w w' := by
  go_enter Tryd.func85, Tryd.ntmps85
  go_wp2_with fail
  refine (Tryd.strconv_FormatInt_10 (wrap64 x) (by unfold wrap64; omega) (by unfold wrap64; omega) _ (hT.fr (by (repeat (first | (with_reducible exact Fr.refl _ _) | (with_reducible assumption) | (with_reducible exact Fr.of_nil (by assumption)) | (with_reducible refine Fr.drew ?_) | (with_reducible refine Fr.drewN ?_ _) | (with_reducible refine Fr.alloc ?_ _) | (with_reducible refine Fr.set ?_ _ _ (by first | (intros; omega) | (simp; done) | (simp; omega))) | (with_reducible refine Fr.via ?_ (by assumption)) | (with_reducible refine Fr.comp ?_ (by assumption)))))).pow).mono ?_
  rintro e w1 ⟨rfl, k, os, rfl⟩
  have f1 := Fr.grow (w.alloc (.cells #[.bool false, .int .u64 x] 36)) k os
  go_wp2
  go_ret
  exact ⟨rfl, by (repeat (first | (with_reducible exact Fr.refl _ _) | (with_reducible assumption) | (with_reducible exact Fr.of_nil (by assumption)) | (with_reducible refine Fr.drew ?_) | (with_reducible refine Fr.drewN ?_ _) | (with_reducible refine Fr.alloc ?_ _) | (with_reducible refine Fr.set ?_ _ _ (by first | (intros; omega) | (simp; done) | (simp; omega))) | (with_reducible refine Fr.via ?_ (by assumption)) | (with_reducible refine Fr.comp ?_ (by assumption))))⟩
theorem print_flt (b : Nat) (w : World) (hb : b < 18446744073709551616) (hT : Tabs w) :
    Calls Tryd.prog 85 #[.agg #[.bool true, .int .u64 b]] w fun e w' => e = .returned (.string ⟨(printF b).toArray⟩) ∧ Fr Nil w w' := by
  have hl := hexL_len 16 b (by omega) (by simpa using hb)
  go_enter Tryd.func85, Tryd.ntmps85
  go_wp2_with fail
  refine (formatUint_any b _ hb (hT.fr (by (repeat (first | (with_reducible exact Fr.refl _ _) | (with_reducible assumption) | (with_reducible exact Fr.of_nil (by assumption)) | (with_reducible refine Fr.drew ?_) | (with_reducible refine Fr.drewN ?_ _) | (with_reducible refine Fr.alloc ?_ _) | (with_reducible refine Fr.set ?_ _ _ (by first | (intros; omega) | (simp; done) | (simp; omega))) | (with_reducible refine Fr.via ?_ (by assumption)) | (with_reducible refine Fr.comp ?_ (by assumption)))))).tz).mono ?_
  rintro e w1 ⟨rfl, f1⟩
  have e16 : (16 : Int) - ((hexL b).length : Int) = ((16 - (hexL b).length : Nat) : Int) := by omega
  go_wp2_with fail
  refine (Tryd.strings_Repeat ⟨#[48]⟩ (16 - (hexL b).length) _ (by omega) (by simp [ByteArray.size]; omega)).mono ?_
  rintro e w2 ⟨rfl, b2⟩
  have f2 := Fr.ofBelow b2
  have er : Lib.repeatL (⟨#[48]⟩ : ByteArray).data.toList (16 - (hexL b).length) = List.replicate (16 - (hexL b).length) 48 := repeat_one _ _
  rw [er]
  have s1 : ∀ w, (Op.stringOp .add ⟨#[48, 102]⟩ ⟨(List.replicate (16 - (hexL b).length) (48 : UInt8)).toArray⟩).run Tryd.prog w = .ok (.string ⟨([48, 102] ++ List.replicate (16 - (hexL b).length) (48 : UInt8)).toArray⟩) w := fun w => run_string_add_lists w [48, 102] _ (by simp) (by simp; omega)
  have s2 : ∀ w, (Op.stringOp .add ⟨([48, 102] ++ List.replicate (16 - (hexL b).length) (48 : UInt8)).toArray⟩ ⟨(hexL b).toArray⟩).run Tryd.prog w = .ok (.string ⟨(printF b).toArray⟩) w := fun w => run_string_add_lists w _ _ (by simp; omega) (by omega)
  clear er
  go_wp2
  go_ret
  exact ⟨rfl, by (repeat (first | (with_reducible exact Fr.refl _ _) | (with_reducible assumption) | (with_reducible exact Fr.of_nil (by assumption)) | (with_reducible refine Fr.drew ?_) | (with_reducible refine Fr.drewN ?_ _) | (with_reducible refine Fr.alloc ?_ _) | (with_reducible refine Fr.set ?_ _ _ (by first | (intros; omega) | (simp; done) | (simp; omega))) | (with_reducible refine Fr.via ?_ (by assumption)) | (with_reducible refine Fr.comp ?_ (by assumption))))⟩
end Go.Proofs.YtpjlibbdngnnnaaDoor
