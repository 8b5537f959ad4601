/-
  Contracts of package num: Print; what the tables of Go's library hold. No conditions but these tables.
-/
import Derived.Test.YtcadbidccmiflaaDoorNum
import Derived.Test.YtcadbidccmiflaaDoorHex
import Derived.Test.YtcadbidccmiflaaDoorShelf
namespace Go.Proofs.YtcadbidccmiflaaDoor
set_option linter.unusedSimpArgs false
set_option linter.unusedVariables false
open Go.RowKit

/-- The tables that Go's library reads here. -/
structure Tabs (w : World) : Prop where
  pow : Lib.TabIs Tryd.prog w "internal/strconv.uint64pow10" .u64 Lib.pow10Tab
  tz : w.cell? ⟨8, 15, none⟩ = some (.int .u8 4)
theorem globalPow : Tryd.prog.globalNamed "internal/strconv.uint64pow10" = some 3 := by kernel_rfl
theorem Tabs.fr {w w1 : World} (h : Tabs w) (f : Fr Nil w w1) : Tabs w1 := by
  refine ⟨?_, f.cell h.tz (by simp [Nil])⟩
  have hp := h.pow
  unfold Lib.TabIs World.var? at *
  rw [globalPow] at *
  simp only [Option.bind_some] at *
  have hl : 3 < w.heap.size := by
    rcases Nat.lt_or_ge 3 w.heap.size with q | q
    · exact q
    · rw [Array.getElem?_eq_none q] at hp; cases hp
  rw [f.block _ hl (fun q => q)]
  exact hp
theorem Fr.grow (w : World) (k : Nat) (os : Array Obj) : Fr Nil w (Go.Sort.grow (w.drewN k) os) :=
  ⟨rfl, rfl, rfl, by show w.heap.size ≤ (w.heap ++ os).size; simp, fun b hb _ => by
    show (w.heap ++ os)[b]? = w.heap[b]?
    rw [Array.getElem?_append_left hb]⟩
theorem Fr.ofBelow {w w1 : World} (h : Below w.heap.size w w1) : Fr Nil w w1 := Fr.of_below h (fun k hk q => by omega)
def printF (b : Nat) : List UInt8 := [48, 102] ++ List.replicate (16 - (hexL b).length) 48 ++ hexL b
theorem hexL_len (k : Nat) : ∀ n : Nat, 1 ≤ k → n < 16 ^ k → (hexL n).length ≤ k := by
  induction k with
  | zero => intro n h; omega
  | succ k ih =>
    intro n _ h
    by_cases h16 : n < 16
    · rw [hexL_lt h16]; simp
    · rw [hexL_ge (by omega)]
      have hk : 1 ≤ k := by
        rcases Nat.eq_zero_or_pos k with rfl | q
        · omega
        · exact q
      have := ih (n / 16) hk (by rw [Nat.pow_succ] at h; omega)
      simp; omega
theorem repeat_one (c : UInt8) : ∀ n, Lib.repeatL [c] n = List.replicate n c
  | 0 => rfl
  | n + 1 => by rw [Lib.repeatL, repeat_one c n, List.replicate_succ]; rfl
theorem print_int (x : Int) (w : World) (hT : Tabs w) :
    Calls Tryd.prog 22 #[.agg #[.bool false, .int .u64 x]] w fun e w' => e = .returned (.string ⟨(Lib.itoa (wrap64 x)).toArray⟩) ∧ Fr Nil w w' := by
  go_enter Tryd.func22, Tryd.ntmps22
  go_wp2_with fail
  refine (Tryd.strconv_FormatInt_10 (wrap64 x) (by unfold wrap64; omega) (by unfold wrap64; omega) _ (hT.fr (by (repeat (first | (with_reducible exact Fr.refl _ _) | (with_reducible assumption) | (with_reducible exact Fr.of_nil (by assumption)) | (with_reducible refine Fr.drew ?_) | (with_reducible refine Fr.drewN ?_ _) | (with_reducible refine Fr.alloc ?_ _) | (with_reducible refine Fr.set ?_ _ _ (by first | (intros; omega) | (simp; done) | (simp; omega))) | (with_reducible refine Fr.via ?_ (by assumption)) | (with_reducible refine Fr.comp ?_ (by assumption)))))).pow).mono ?_
  rintro e w1 ⟨rfl, k, os, rfl⟩
  have f1 := Fr.grow (w.alloc (.cells #[.bool false, .int .u64 x] 25)) k os
  go_wp2
  go_ret
  exact ⟨rfl, by (repeat (first | (with_reducible exact Fr.refl _ _) | (with_reducible assumption) | (with_reducible exact Fr.of_nil (by assumption)) | (with_reducible refine Fr.drew ?_) | (with_reducible refine Fr.drewN ?_ _) | (with_reducible refine Fr.alloc ?_ _) | (with_reducible refine Fr.set ?_ _ _ (by first | (intros; omega) | (simp; done) | (simp; omega))) | (with_reducible refine Fr.via ?_ (by assumption)) | (with_reducible refine Fr.comp ?_ (by assumption))))⟩
theorem print_flt (b : Nat) (w : World) (hb : b < 18446744073709551616) (hT : Tabs w) :
    Calls Tryd.prog 22 #[.agg #[.bool true, .int .u64 b]] w fun e w' => e = .returned (.string ⟨(printF b).toArray⟩) ∧ Fr Nil w w' := by
  have hl := hexL_len 16 b (by omega) (by simpa using hb)
  go_enter Tryd.func22, Tryd.ntmps22
  go_wp2_with fail
  refine (formatUint_any b _ hb (hT.fr (by (repeat (first | (with_reducible exact Fr.refl _ _) | (with_reducible assumption) | (with_reducible exact Fr.of_nil (by assumption)) | (with_reducible refine Fr.drew ?_) | (with_reducible refine Fr.drewN ?_ _) | (with_reducible refine Fr.alloc ?_ _) | (with_reducible refine Fr.set ?_ _ _ (by first | (intros; omega) | (simp; done) | (simp; omega))) | (with_reducible refine Fr.via ?_ (by assumption)) | (with_reducible refine Fr.comp ?_ (by assumption)))))).tz).mono ?_
  rintro e w1 ⟨rfl, f1⟩
  have e16 : (16 : Int) - ((hexL b).length : Int) = ((16 - (hexL b).length : Nat) : Int) := by omega
  go_wp2_with fail
  refine (Tryd.strings_Repeat ⟨#[48]⟩ (16 - (hexL b).length) _ (by omega) (by simp [ByteArray.size]; omega)).mono ?_
  rintro e w2 ⟨rfl, b2⟩
  have f2 := Fr.ofBelow b2
  have er : Lib.repeatL (⟨#[48]⟩ : ByteArray).data.toList (16 - (hexL b).length) = List.replicate (16 - (hexL b).length) 48 := repeat_one _ _
  rw [er]
  have s1 : ∀ w, (Op.stringOp .add ⟨#[48, 102]⟩ ⟨(List.replicate (16 - (hexL b).length) (48 : UInt8)).toArray⟩).run Tryd.prog w = .ok (.string ⟨([48, 102] ++ List.replicate (16 - (hexL b).length) (48 : UInt8)).toArray⟩) w := fun w => run_string_add_lists w [48, 102] _ (by simp) (by simp; omega)
  have s2 : ∀ w, (Op.stringOp .add ⟨([48, 102] ++ List.replicate (16 - (hexL b).length) (48 : UInt8)).toArray⟩ ⟨(hexL b).toArray⟩).run Tryd.prog w = .ok (.string ⟨(printF b).toArray⟩) w := fun w => run_string_add_lists w _ _ (by simp; omega) (by omega)
  clear er
  go_wp2
  go_ret
  exact ⟨rfl, by (repeat (first | (with_reducible exact Fr.refl _ _) | (with_reducible assumption) | (with_reducible exact Fr.of_nil (by assumption)) | (with_reducible refine Fr.drew ?_) | (with_reducible refine Fr.drewN ?_ _) | (with_reducible refine Fr.alloc ?_ _) | (with_reducible refine Fr.set ?_ _ _ (by first | (intros; omega) | (simp; done) | (simp; omega))) | (with_reducible refine Fr.via ?_ (by assumption)) | (with_reducible refine Fr.comp ?_ (by assumption))))⟩
end Go.Proofs.YtcadbidccmiflaaDoor
