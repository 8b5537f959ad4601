/-
  Contracts of package num: Int, kind, whole and its closures. No conditions.
-/
import Derived.Test.YtcadbidccmiflaaDoorRows
import Derived.Test.YtcadbidccmiflaaDoorKit
import Derived.Deep.QuietTactic
import Derived.BigQuiet
import Derived.RegionTactic
import Derived.Laws.FloatArith
namespace Go.Proofs.YtcadbidccmiflaaDoor
set_option linter.unusedSimpArgs false
set_option linter.unusedVariables false
open Go.RowKit

/-- A number's value. -/
def numV (f : Bool) (b : Int) : Value := .agg #[.bool f, .int .u64 b]
theorem int_any (n : Int) (w : World) :
    Calls Tryd.prog 14 #[.int .i64 n] w fun e w' => e = .returned (.agg #[.bool false, .int .u64 (IntKind.u64.wrap n)]) ∧ Fr Nil w w' := by
  go_enter Tryd.func14, Tryd.ntmps14
  go_wp2
  refine bodyPost_ret (v := .agg #[.bool false, .int .u64 (IntKind.u64.wrap n)]) (by simp [results, Tryd.results14, go_sem]) rfl ⟨rfl, ?_⟩
  (repeat (first | (with_reducible exact Fr.refl _ _) | (with_reducible assumption) | (with_reducible exact Fr.of_nil (by assumption)) | (with_reducible refine Fr.drew ?_) | (with_reducible refine Fr.drewN ?_ _) | (with_reducible refine Fr.alloc ?_ _) | (with_reducible refine Fr.set ?_ _ _ (by first | (intros; omega) | (simp; done) | (simp; omega))) | (with_reducible refine Fr.via ?_ (by assumption)) | (with_reducible refine Fr.comp ?_ (by assumption))))
theorem kind1_any (f g : Bool) (x : Int) (b : Nat) (t : TypeId) (w : World) (h : Blk w b #[.bool g, .int .u64 x] t) :
    Calls Tryd.prog 24 #[.bool f, .slice (some ⟨b, 0, none⟩) 1 1] w fun e w' => e = .returned (.bool (g == f)) ∧ Fr Nil w w' := by
  have c0 := h.cell 0
  have c1 := h.cell 1
  have hl := h.lt
  simp at c0 c1
  cases f <;> cases g
  all_goals
    go_enter Tryd.func24, Tryd.ntmps24
    go_wp2
    refine wp_loop_rounds 2 ?_
    rw [rounds_succ]
    go_wp2
    try (rw [rounds_succ]; go_wp2)
    go_ret
    exact ⟨rfl, by (repeat (first | (with_reducible exact Fr.refl _ _) | (with_reducible assumption) | (with_reducible exact Fr.of_nil (by assumption)) | (with_reducible refine Fr.drew ?_) | (with_reducible refine Fr.drewN ?_ _) | (with_reducible refine Fr.alloc ?_ _) | (with_reducible refine Fr.set ?_ _ _ (by first | (intros; omega) | (simp; done) | (simp; omega))) | (with_reducible refine Fr.via ?_ (by assumption)) | (with_reducible refine Fr.comp ?_ (by assumption))))⟩
theorem kind2_any (f g g' : Bool) (x x' : Int) (b : Nat) (t : TypeId) (w : World) (h : Blk w b #[.bool g, .int .u64 x, .bool g', .int .u64 x'] t) :
    Calls Tryd.prog 24 #[.bool f, .slice (some ⟨b, 0, none⟩) 2 2] w fun e w' => e = .returned (.bool (g == f && g' == f)) ∧ Fr Nil w w' := by
  have c0 := h.cell 0
  have c1 := h.cell 1
  have c2 := h.cell 2
  have c3 := h.cell 3
  have hl := h.lt
  simp at c0 c1 c2 c3
  cases f <;> cases g <;> cases g'
  all_goals
    go_enter Tryd.func24, Tryd.ntmps24
    go_wp2
    refine wp_loop_rounds 3 ?_
    rw [rounds_succ]
    go_wp2
    try (rw [rounds_succ]; go_wp2)
    try (rw [rounds_succ]; go_wp2)
    go_ret
    exact ⟨rfl, by (repeat (first | (with_reducible exact Fr.refl _ _) | (with_reducible assumption) | (with_reducible exact Fr.of_nil (by assumption)) | (with_reducible refine Fr.drew ?_) | (with_reducible refine Fr.drewN ?_ _) | (with_reducible refine Fr.alloc ?_ _) | (with_reducible refine Fr.set ?_ _ _ (by first | (intros; omega) | (simp; done) | (simp; omega))) | (with_reducible refine Fr.via ?_ (by assumption)) | (with_reducible refine Fr.comp ?_ (by assumption))))⟩
/-- A quotient, and what is left. -/
theorem quo_any (x y : Int) (w : World) (hy : y ≠ 0) :
    Calls Tryd.prog 26 #[.int .i64 x, .int .i64 y] w fun e w' => e = .returned (.int .i64 (wrap64 (x.tdiv y))) ∧ w = w' := by
  go_enter Tryd.func26, Tryd.ntmps26
  go_wp2
  go_ret
  exact ⟨rfl, rfl⟩
theorem rem_any (x y : Int) (w : World) (hy : y ≠ 0) :
    Calls Tryd.prog 27 #[.int .i64 x, .int .i64 y] w fun e w' => e = .returned (.int .i64 (x.tmod y)) ∧ w = w' := by
  go_enter Tryd.func27, Tryd.ntmps27
  go_wp2
  go_ret
  exact ⟨rfl, rfl⟩
theorem whole_zero (x : Int) (v : Value) (w : World) :
    Calls Tryd.prog 25 #[.int .i64 x, .int .i64 0, v] w fun e w' => e = .returned (.tuple #[.agg #[.bool false, .int .u64 0], .int .i64 7]) ∧ Fr Nil w w' := by
  go_enter Tryd.func25, Tryd.ntmps25
  go_wp2
  refine bodyPost_ret (v := .tuple #[.agg #[.bool false, .int .u64 0], .int .i64 7]) (by simp [results, Tryd.results25, go_sem]) rfl ⟨rfl, ?_⟩
  (repeat (first | (with_reducible exact Fr.refl _ _) | (with_reducible assumption) | (with_reducible exact Fr.of_nil (by assumption)) | (with_reducible refine Fr.drew ?_) | (with_reducible refine Fr.drewN ?_ _) | (with_reducible refine Fr.alloc ?_ _) | (with_reducible refine Fr.set ?_ _ _ (by first | (intros; omega) | (simp; done) | (simp; omega))) | (with_reducible refine Fr.via ?_ (by assumption)) | (with_reducible refine Fr.comp ?_ (by assumption))))
theorem whole_over (v : Value) (w : World) :
    Calls Tryd.prog 25 #[.int .i64 (-9223372036854775808), .int .i64 (-1), v] w fun e w' => e = .returned (.tuple #[.agg #[.bool false, .int .u64 0], .int .i64 8]) ∧ Fr Nil w w' := by
  go_enter Tryd.func25, Tryd.ntmps25
  go_wp2
  refine bodyPost_ret (v := .tuple #[.agg #[.bool false, .int .u64 0], .int .i64 8]) (by simp [results, Tryd.results25, go_sem]) rfl ⟨rfl, ?_⟩
  (repeat (first | (with_reducible exact Fr.refl _ _) | (with_reducible assumption) | (with_reducible exact Fr.of_nil (by assumption)) | (with_reducible refine Fr.drew ?_) | (with_reducible refine Fr.drewN ?_ _) | (with_reducible refine Fr.alloc ?_ _) | (with_reducible refine Fr.set ?_ _ _ (by first | (intros; omega) | (simp; done) | (simp; omega))) | (with_reducible refine Fr.via ?_ (by assumption)) | (with_reducible refine Fr.comp ?_ (by assumption))))
theorem whole_quo (x y : Int) (w : World) (hy : y ≠ 0) (ho : x ≠ -9223372036854775808 ∨ y ≠ -1) :
    Calls Tryd.prog 25 #[.int .i64 x, .int .i64 y, .func (.func 26) #[] #[]] w fun e w' => e = .returned (.tuple #[.agg #[.bool false, .int .u64 (IntKind.u64.wrap (wrap64 (x.tdiv y)))], .int .i64 0]) ∧ Fr Nil w w' := by
  have d1 : (y == 0) = false := by simpa using hy
  obtain ⟨q1, q2, d2, d3, hq⟩ : ∃ q1 q2 : Bool, (x == -9223372036854775808) = q1 ∧ (y == -1) = q2 ∧ (q1 = false ∨ q2 = false) :=
    ⟨_, _, rfl, rfl, ho.elim (fun h => .inl (by simpa using h)) (fun h => .inr (by simpa using h))⟩
  clear ho
  cases q1 <;> cases q2 <;> simp at hq
  all_goals
    go_enter Tryd.func25, Tryd.ntmps25
    go_wp2_with (first | (go_at_call 26; refine (quo_any x y _ hy).mono ?_; rintro e w1 ⟨rfl, rfl⟩) | (go_at_call 14; refine (int_any _ _).mono ?_; rintro e w1 ⟨rfl, f1⟩; obtain ⟨hc, hf, hz⟩ := f1.rules))
    refine bodyPost_ret (v := .tuple #[.agg #[.bool false, .int .u64 (IntKind.u64.wrap (wrap64 (x.tdiv y)))], .int .i64 0]) (by simp [results, Tryd.results25, go_sem, hc, hf, hz]) rfl ⟨rfl, ?_⟩
    (repeat (first | (with_reducible exact Fr.refl _ _) | (with_reducible assumption) | (with_reducible exact Fr.of_nil (by assumption)) | (with_reducible refine Fr.drew ?_) | (with_reducible refine Fr.drewN ?_ _) | (with_reducible refine Fr.alloc ?_ _) | (with_reducible refine Fr.set ?_ _ _ (by first | (intros; omega) | (simp; done) | (simp; omega))) | (with_reducible refine Fr.via ?_ (by assumption)) | (with_reducible refine Fr.comp ?_ (by assumption))))
theorem whole_rem (x y : Int) (w : World) (hy : y ≠ 0) (ho : x ≠ -9223372036854775808 ∨ y ≠ -1) :
    Calls Tryd.prog 25 #[.int .i64 x, .int .i64 y, .func (.func 27) #[] #[]] w fun e w' => e = .returned (.tuple #[.agg #[.bool false, .int .u64 (IntKind.u64.wrap (x.tmod y))], .int .i64 0]) ∧ Fr Nil w w' := by
  have d1 : (y == 0) = false := by simpa using hy
  obtain ⟨q1, q2, d2, d3, hq⟩ : ∃ q1 q2 : Bool, (x == -9223372036854775808) = q1 ∧ (y == -1) = q2 ∧ (q1 = false ∨ q2 = false) :=
    ⟨_, _, rfl, rfl, ho.elim (fun h => .inl (by simpa using h)) (fun h => .inr (by simpa using h))⟩
  clear ho
  cases q1 <;> cases q2 <;> simp at hq
  all_goals
    go_enter Tryd.func25, Tryd.ntmps25
    go_wp2_with (first | (go_at_call 27; refine (rem_any x y _ hy).mono ?_; rintro e w1 ⟨rfl, rfl⟩) | (go_at_call 14; refine (int_any _ _).mono ?_; rintro e w1 ⟨rfl, f1⟩; obtain ⟨hc, hf, hz⟩ := f1.rules))
    refine bodyPost_ret (v := .tuple #[.agg #[.bool false, .int .u64 (IntKind.u64.wrap (x.tmod y))], .int .i64 0]) (by simp [results, Tryd.results25, go_sem, hc, hf, hz]) rfl ⟨rfl, ?_⟩
    (repeat (first | (with_reducible exact Fr.refl _ _) | (with_reducible assumption) | (with_reducible exact Fr.of_nil (by assumption)) | (with_reducible refine Fr.drew ?_) | (with_reducible refine Fr.drewN ?_ _) | (with_reducible refine Fr.alloc ?_ _) | (with_reducible refine Fr.set ?_ _ _ (by first | (intros; omega) | (simp; done) | (simp; omega))) | (with_reducible refine Fr.via ?_ (by assumption)) | (with_reducible refine Fr.comp ?_ (by assumption))))
/-- Is a float's word none's? -/
def isNan (b : Nat) : Bool := FloatKind.f64.format.order b b != some Ordering.eq
def normF (b : Nat) : Nat := if isNan b then 9221120237041090560 else b
theorem bits_run (w : World) (b : Nat) : (callFunc 48 #[.float .f64 b]).run Tryd.prog w = .ok (.value (.int .u64 b)) w := by kernel_rfl
theorem frombits_run (w : World) (b : Nat) : (callFunc 30 #[.int .u64 (b : Int)]).run Tryd.prog w = .ok (.value (.float .f64 b)) w := by kernel_rfl
set_option maxRecDepth 100000 in
theorem float_any (b : Nat) (w : World) :
    Calls Tryd.prog 28 #[.float .f64 b] w fun e w' => e = .returned (.agg #[.bool true, .int .u64 (normF b)]) ∧ Fr Nil w w' := by
  have hb := fun w => bits_run w b
  cases hn : isNan b
  · have hn' : normF b = b := by simp [normF, hn]
    rw [hn']
    unfold isNan at hn
    clear hn'
    go_enter Tryd.func28, Tryd.ntmps28
    go_wp2
    refine bodyPost_ret (v := .agg #[.bool true, .int .u64 b]) (by simp [results, Tryd.results28, go_sem]) rfl ⟨rfl, ?_⟩
    (repeat (first | (with_reducible exact Fr.refl _ _) | (with_reducible assumption) | (with_reducible exact Fr.of_nil (by assumption)) | (with_reducible refine Fr.drew ?_) | (with_reducible refine Fr.drewN ?_ _) | (with_reducible refine Fr.alloc ?_ _) | (with_reducible refine Fr.set ?_ _ _ (by first | (intros; omega) | (simp; done) | (simp; omega))) | (with_reducible refine Fr.via ?_ (by assumption)) | (with_reducible refine Fr.comp ?_ (by assumption))))
  · have hn' : normF b = 9221120237041090560 := by simp [normF, hn]
    rw [hn']
    unfold isNan at hn
    clear hn'
    go_enter Tryd.func28, Tryd.ntmps28
    go_wp2
    refine bodyPost_ret (v := .agg #[.bool true, .int .u64 9221120237041090560]) (by simp [results, Tryd.results28, go_sem]) rfl ⟨rfl, ?_⟩
    (repeat (first | (with_reducible exact Fr.refl _ _) | (with_reducible assumption) | (with_reducible exact Fr.of_nil (by assumption)) | (with_reducible refine Fr.drew ?_) | (with_reducible refine Fr.drewN ?_ _) | (with_reducible refine Fr.alloc ?_ _) | (with_reducible refine Fr.set ?_ _ _ (by first | (intros; omega) | (simp; done) | (simp; omega))) | (with_reducible refine Fr.via ?_ (by assumption)) | (with_reducible refine Fr.comp ?_ (by assumption))))
end Go.Proofs.YtcadbidccmiflaaDoor
