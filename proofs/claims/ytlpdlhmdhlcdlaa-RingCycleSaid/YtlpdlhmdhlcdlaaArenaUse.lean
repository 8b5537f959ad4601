/-
  Contracts of package arena: New, Load, Store, Len, Uses, Words, each for every arena.
-/
import Derived.Test.YtlpdlhmdhlcdlaaRows
import Derived.Test.YtlpdlhmdhlcdlaaKit
import Derived.Defers
import Derived.Recover
import Derived.Laws.Pointers
import Derived.Laws.LoneSync
namespace Go.Proofs.Ytlpdlhmdhlcdlaa
set_option linter.unusedSimpArgs false
set_option linter.unusedVariables false
open Go.RowKit

/-- An arena: its record in block ba, its words in block bw. -/
structure Arena (w : World) (ba bw : Nat) (l : List Int) (u : Nat) : Prop where
  box : Blk w ba #[.slice (some ⟨bw, 0, none⟩) l.length l.length, .int .i64 u] 87
  words : Blk w bw (ints l) 2

theorem Arena.set {w : World} {ba bw : Nat} {l : List Int} {u : Nat} (h : Arena w ba bw l u) {a : Addr} (h1 : ba ≠ a.block) (h2 : bw ≠ a.block) (v : Value) : Arena (w.setCell a v) ba bw l u := ⟨h.box.other h1 v, h.words.other h2 v⟩
theorem Arena.alloc {w : World} {ba bw : Nat} {l : List Int} {u : Nat} (h : Arena w ba bw l u) (o : Obj) : Arena (w.alloc o) ba bw l u := ⟨h.box.alloc o, h.words.alloc o⟩
theorem Arena.drewN {w : World} {ba bw : Nat} {l : List Int} {u : Nat} (h : Arena w ba bw l u) (n : Nat) : Arena (w.drewN n) ba bw l u := ⟨h.box.drewN n, h.words.drewN n⟩
theorem Arena.fr {S : Nat → Prop} {w w1 : World} {ba bw : Nat} {l : List Int} {u : Nat} (h : Arena w ba bw l u) (f : Fr S w w1) (h1 : ¬ S ba) (h2 : ¬ S bw) : Arena w1 ba bw l u := ⟨f.blk h.box h1, f.blk h.words h2⟩

theorem catch_panicking (p : Addr) (x : Int) (u : TypeId) (pv : Value) (older : List PanicEntry) (w : World) (hc : w.cell? p = some (.int .i64 x)) (hz : w.frozen? p = false) :
    CallsD Try.prog 54 #[.pointer (some p)] (.panicking ({ v := .iface u pv, recovered := false } :: older)) w fun e u' w' =>
      e = .returned (.tuple #[]) ∧ u' = .panicking ({ v := .iface u pv, recovered := true } :: older) ∧ w' = w.setCell p (.int .i64 1) := by
  refine callsD_of_wpS Try.func54 rfl fun c₀ cs hu => ?_
  apply wpS_seq
  apply wpS_region
  simp [wpOpsS, go_sem, recoverD, hu, Try.ntmps54, Exit.thenS]
  refine wpS_cond (t := true) (by simp [Act.eval, Array.replicate]) ?_
  simp only [if_true]
  apply wpS_region
  simp [wpOpsS, go_sem, hc, hz, bodyPostS, results, Try.results54]
theorem catch_idle (p : Addr) (w : World) :
    CallsD Try.prog 54 #[.pointer (some p)] .returning w fun e u' w' => e = .returned (.tuple #[]) ∧ u' = .returning ∧ w' = w := by
  refine callsD_of_wpS Try.func54 rfl fun c₀ cs hu => ?_
  apply wpS_seq
  apply wpS_region
  simp [wpOpsS, go_sem, recoverD, hu, Try.ntmps54, Exit.thenS]
  refine wpS_cond (t := false) (by simp [Act.eval, Array.replicate]) ?_
  simp only [Bool.false_eq_true, if_false]
  refine wpS_of_wp (wp_skip ?_)
  cases c₀
  simp_all [bodyPostS, results, Try.results54]

theorem load_do (p o : Addr) (x : Int) (y : Value) (w : World) (hc : w.cell? p = some (.int .i64 x)) (ho : w.cell? o = some y) (hf : w.frozen? o = false) :
    Calls Try.prog 56 #[.pointer (some p), .pointer (some o)] w fun e w' => e = .returned (.tuple #[]) ∧ w.setCell o (.int .i64 x) = w' := by
  go_enter Try.func56, Try.ntmps56
  go_wp2
  go_end0
  exact ⟨rfl, rfl⟩
theorem store_do (p o : Addr) (x : Value) (y : Int) (w : World) (hc : w.cell? p = some x) (ho : w.cell? o = some (.int .i64 y)) (hf : w.frozen? p = false) :
    Calls Try.prog 52 #[.pointer (some p), .pointer (some o)] w fun e w' => e = .returned (.tuple #[]) ∧ w.setCell p (.int .i64 y) = w' := by
  go_enter Try.func52, Try.ntmps52
  go_wp2
  go_end0
  exact ⟨rfl, rfl⟩
theorem run_add (p : Addr) (x y : Int) (w : World) (hc : w.cell? p = some (.int .i64 x)) (hz : w.frozen? p = false) : (callFunc 57 #[.pointer (some p), .int .i64 y]).run Try.prog w = .ok (.value (.int .i64 (wrap64 (x + y)))) (w.setCell p (.int .i64 (wrap64 (x + y)))) :=
  run_call_add Try.func57 (by kernel_rfl) (by kernel_rfl) (by kernel_rfl) .i64 (by kernel_rfl) hc hz (by simp [go_sem, wrap64, IntKind.wrap_i64])
theorem atomic_add (p : Addr) (x y : Int) (w : World) (hc : w.cell? p = some (.int .i64 x)) (hf : w.frozen? p = false) :
    Calls Try.prog 55 #[.pointer (some p), .int .i64 y] w fun e w' => e = .returned (.int .i64 (wrap64 (x + y))) ∧ w.setCell p (.int .i64 (wrap64 (x+y))) = w' := by
  have hr := run_add p x y w hc hf
  go_enter Try.func55, Try.ntmps55
  go_wp2
  go_ret
  exact ⟨rfl, rfl⟩

theorem use_out (ba : Nat) (a0 : Addr) (len cap : Nat) (at_ : Int) (f : Value) (w : World) (hba : ba < w.heap.size) (hw : w.cell? ⟨ba, 0, none⟩ = some (.slice (some a0) len cap)) (hout : at_ < 0 ∨ len ≤ at_) :
    Calls Try.prog 51 #[.pointer (some ⟨ba, 0, none⟩), .int .i64 at_, f] w fun e w' => e = .returned (.int .i64 1) ∧ Fr Nil w w' := by
  have hmf : ∀ (fn : Fn) (first cap : Array Value) (w : World), (Instr.makeFunc fn first cap).run Try.prog w = .ok (.func fn first cap) w := fun _ _ _ _ => rfl
  obtain ⟨v, w', hrun, hw'⟩ := bounds_out (α := Value) (P := Try.prog) (w.alloc (.cells #[.int .i64 0] 28)) .i64 at_ len .index
  have hidx : (Instr.indexAt 61 (.slice (some a0) len cap) (.int .i64 at_)).run Try.prog (w.alloc (.cells #[.int .i64 0] 28)) = .halt (.panic (.iface Try.prog.rt.boundsError v)) w' := by
    rw [run_indexAt_slice (h := Try.underlying61), if_neg (by omega), hrun]
  clear hrun hout
  have hc : w'.cell? ⟨w.heap.size, 0, none⟩ = some (.int .i64 0) := by rcases hw' with rfl | rfl <;> simp [go_sem]
  have hz : w'.frozen? ⟨w.heap.size, 0, none⟩ = false := by rcases hw' with rfl | rfl <;> simp [go_sem]
  have hfr : Fr Nil w w' := by rcases hw' with rfl | rfl; exact (Fr.refl _ _).alloc _; exact ((Fr.refl _ _).alloc _).drew
  clear hw'
  go_enter_defers Try.func51, Try.ntmps51
  go_wp2
  refine leaves_cons (f := 54) (args := #[.pointer (some ⟨w.heap.size, 0, none⟩)]) (by simp) (by simp [go_sem]) ?_
  refine (catch_panicking ⟨w.heap.size, 0, none⟩ 0 _ _ [] _ hc hz).mono ?_
  rintro e u' w'' ⟨rfl, rfl, rfl⟩
  have hk : (w'.setCell ⟨w.heap.size, 0, none⟩ (.int .i64 1)).cell? ⟨w.heap.size, 0, none⟩ = some (.int .i64 1) := World.cell?_setCell_same _ _ _ (u := .int .i64 0) hc
  have hg : Fr Nil w (w'.setCell ⟨w.heap.size, 0, none⟩ (.int .i64 1)) := hfr.set _ _ (fun h => absurd h (Nat.lt_irrefl _))
  simp [Leaves, settle, results, Try.results51, go_sem, hk, hg]
theorem use_load (ba bw : Nat) (l : List Int) (u : Nat) (k : Nat) (bo : Nat) (y : Value) (t : TypeId) (w : World) (ha : Arena w ba bw l u) (ho : Blk w bo #[y] t) (hk : k < l.length) (ht : t ≠ 87) (n2 : bw ≠ bo) (hu : u < 4611686018427387904) :
    Calls Try.prog 51 #[.pointer (some ⟨ba, 0, none⟩), .int .i64 k, .func (Fn.func 56) #[] #[.pointer (some ⟨bo, 0, none⟩)]] w fun e w' =>
      e = .returned (.int .i64 0) ∧ Arena w' ba bw l (u + 1) ∧ Blk w' bo #[.int .i64 (nth l k)] t ∧ Fr (fun b => b = ba ∨ b = bo) w w' := by
  have hmf : ∀ (fn : Fn) (first cap : Array Value) (w : World), (Instr.makeFunc fn first cap).run Try.prog w = .ok (.func fn first cap) w := fun _ _ _ _ => rfl
  have hba := ha.box.lt
  have hbw := ha.words.lt
  have hbo := ho.lt
  have c0 := ha.box.cell 0
  have c1 := ha.box.cell 1
  have cw := (ha.words.cell k).trans (ints_at l k hk)
  have co := ho.cell 0
  have fo := ho.free 0
  have fa := ha.box.free 1
  have n1 : ba ≠ bo := ha.box.apart ho (Ne.symm ht)
  simp at c0 c1 co
  go_enter_defers Try.func51, Try.ntmps51
  go_wp2_with (first
    | (go_at_call 56; refine (load_do _ _ (nth l k) y _ ?_ ?_ ?_).mono ?_; · simp [go_sem, hbw, cw]
       · simp [go_sem, hbo, co]
       · simp [go_sem, hbo, fo]
       rintro e w1 ⟨rfl, rfl⟩)
    | (go_at_call 55; refine (atomic_add ⟨ba, 1, none⟩ u 1 _ ?_ ?_).mono ?_; · simp [go_sem, hba, c1]
       · simp [go_sem, hba, fa]
       rintro e w1 ⟨rfl, rfl⟩))
  refine leaves_cons (f := 54) (args := #[.pointer (some ⟨w.heap.size, 0, none⟩)]) (by simp) (by simp [go_sem]) ?_
  refine (catch_idle ⟨w.heap.size, 0, none⟩ _).mono ?_
  rintro e u' w'' ⟨rfl, rfl, rfl⟩
  have g1 := (((ho.store 0 (.int .i64 (nth l k))).other (a := ⟨ba, 1, none⟩) (Ne.symm n1) (.int .i64 (wrap64 ((u : Int) + 1)))).alloc (.cells #[.int .i64 0] 28))
  have g2 := (((ha.words.other (a := ⟨bo, 0, none⟩) n2 (.int .i64 (nth l k))).other (a := ⟨ba, 1, none⟩) (ha.words.apart ha.box (by decide)) (.int .i64 (wrap64 ((u : Int) + 1)))).alloc (.cells #[.int .i64 0] 28))
  have g3 := (((ha.box.other (a := ⟨bo, 0, none⟩) n1 (.int .i64 (nth l k))).store 1 (.int .i64 (wrap64 ((u : Int) + 1)))).alloc (.cells #[.int .i64 0] 28))
  have g4 : Fr (fun b => b = ba ∨ b = bo) w _ := (((Fr.refl _ w).set ⟨bo, 0, none⟩ (.int .i64 (nth l k)) (fun _ => .inr rfl)).set ⟨ba, 1, none⟩ (.int .i64 (wrap64 ((u : Int) + 1))) (fun _ => .inl rfl)).alloc (.cells #[.int .i64 0] 28)
  simp [succ64 u hu] at g1 g2 g3 g4
  simp [Leaves, settle, results, Try.results51, go_sem, g1, g4, succ64 u hu]
  exact ⟨g3, g2⟩
theorem use_store (ba bw : Nat) (l : List Int) (u : Nat) (k : Nat) (bo : Nat) (y : Int) (t : TypeId) (w : World) (ha : Arena w ba bw l u) (ho : Blk w bo #[.int .i64 y] t) (hk : k < l.length) (hu : u < 4611686018427387904) :
    Calls Try.prog 51 #[.pointer (some ⟨ba, 0, none⟩), .int .i64 k, .func (Fn.func 52) #[] #[.pointer (some ⟨bo, 0, none⟩)]] w fun e w' =>
      e = .returned (.int .i64 0) ∧ Arena w' ba bw (l.set k y) (u + 1) ∧ Fr (fun b => b = ba ∨ b = bw) w w' := by
  have hmf : ∀ (fn : Fn) (first cap : Array Value) (w : World), (Instr.makeFunc fn first cap).run Try.prog w = .ok (.func fn first cap) w := fun _ _ _ _ => rfl
  have hba := ha.box.lt
  have hbw := ha.words.lt
  have hbo := ho.lt
  have c0 := ha.box.cell 0
  have c1 := ha.box.cell 1
  have cw := (ha.words.cell k).trans (ints_at l k hk)
  have co := ho.cell 0
  have fw := ha.words.free k
  have fa := ha.box.free 1
  have n1 : ba ≠ bw := ha.box.apart ha.words (by decide)
  simp at c0 c1 co
  go_enter_defers Try.func51, Try.ntmps51
  go_wp2_with (first
    | (go_at_call 52; refine (store_do _ _ (.int .i64 (nth l k)) y _ ?_ ?_ ?_).mono ?_; · simp [go_sem, hbw, cw]
       · simp [go_sem, hbo, co]
       · simp [go_sem, hbw, fw]
       rintro e w1 ⟨rfl, rfl⟩)
    | (go_at_call 55; refine (atomic_add ⟨ba, 1, none⟩ u 1 _ ?_ ?_).mono ?_; · simp [go_sem, hba, c1]
       · simp [go_sem, hba, fa]
       rintro e w1 ⟨rfl, rfl⟩))
  refine leaves_cons (f := 54) (args := #[.pointer (some ⟨w.heap.size, 0, none⟩)]) (by simp) (by simp [go_sem]) ?_
  refine (catch_idle ⟨w.heap.size, 0, none⟩ _).mono ?_
  rintro e u' w'' ⟨rfl, rfl, rfl⟩
  have g2 := (((ha.words.store k (.int .i64 y)).other (a := ⟨ba, 1, none⟩) (Ne.symm n1) (.int .i64 (wrap64 ((u : Int) + 1)))).alloc (.cells #[.int .i64 0] 28))
  have g3 := (((ha.box.other (a := ⟨bw, k, none⟩) n1 (.int .i64 y)).store 1 (.int .i64 (wrap64 ((u : Int) + 1)))).alloc (.cells #[.int .i64 0] 28))
  have g4 : Fr (fun b => b = ba ∨ b = bw) w _ := (((Fr.refl _ w).set ⟨bw, k, none⟩ (.int .i64 y) (fun _ => .inr rfl)).set ⟨ba, 1, none⟩ (.int .i64 (wrap64 ((u : Int) + 1))) (fun _ => .inl rfl)).alloc (.cells #[.int .i64 0] 28)
  rw [ints_set] at g2
  simp [succ64 u hu] at g3 g4 g2
  simp [Leaves, settle, results, Try.results51, go_sem, g4, succ64 u hu]
  exact ⟨by simpa using g3, g2⟩

end Go.Proofs.Ytlpdlhmdhlcdlaa
