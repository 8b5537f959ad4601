/-
  Layer 5: what is told, and counts, compared. No conditions.
-/
import Derived.Test.YtlpdlhmdhlcdlaaL05g
namespace Go.Proofs.Ytlpdlhmdhlcdlaa
set_option linter.unusedSimpArgs false
set_option linter.unusedVariables false
open Go.RowKit Go.Shelf

theorem told_fields : (Try.prog.fieldsOf 47).toList.map (fun f => (f.name, f.type, f.offset)) = [("Cell", 3, 0), ("Is", 4, 1), ("Err", 3, 2)] := by kernel_rfl
theorem told_under : Try.prog.underlying 47 = some (.struct (Try.prog.fieldsOf 47)) := by kernel_rfl
theorem told_held : Try.prog.stoodInHeld 47 = false := by kernel_rfl
theorem run_neq_told (w : World) (x y : Int) (b : Bool) : (binOp .neq 47 (.agg #[.int .i64 x, .bool b, .int .i64 y]) (.agg #[.int .i64 x, .bool b, .int .i64 y])).run Try.prog w = .ok (.bool false) w := by
  have hp : Try.prog.plainKey 3 = true := by kernel_rfl
  have hpb : Try.prog.plainKey 4 = true := by kernel_rfl
  have p0 := run_part_plain w hp (xs := #[.int .i64 x, .bool b, .int .i64 y]) (off := 0) (v := .int .i64 x) rfl
  have p1 := run_part_plain w hpb (xs := #[.int .i64 x, .bool b, .int .i64 y]) (off := 1) (v := .bool b) rfl
  have p2 := run_part_plain w hp (xs := #[.int .i64 x, .bool b, .int .i64 y]) (off := 2) (v := .int .i64 y) rfl
  have h : ∀ d : Nat, (Op.equalIn (d + 1 + 1) 47 (.agg #[.int .i64 x, .bool b, .int .i64 y]) (.agg #[.int .i64 x, .bool b, .int .i64 y])).run Try.prog w = .ok true w := fun d => by
    rw [run_equalIn_struct w (d + 1) _ _ _ told_under told_held]
    have hf := told_fields
    generalize (Try.prog.fieldsOf 47).toList = fs at hf
    have hl : fs.length = 3 := by have := congrArg List.length hf; simpa using this
    match fs, hl with
    | [f0, f1, f2], _ =>
      simp at hf
      obtain ⟨⟨a1, a2, a3⟩, ⟨b1, b2, b3⟩, c1, c2, c3⟩ := hf
      have e1 := run_equalIn_int (P := Try.prog) w d 3 .i64 .i64 x x Try.underlying3
      have e2 := run_equalIn_int (P := Try.prog) w d 3 .i64 .i64 y y Try.underlying3
      have e3 := run_equalIn_bool (P := Try.prog) w d 4 b b Try.underlying4
      simp [Op.eqFields, a1, a2, a3, b1, b2, b3, c1, c2, c3, p0, p1, p2, e1, e2, e3]
  simp only [binOp]
  simp [Op.equal, Op.maxDepth, h 9998]
theorem run_neq_four (w : World) (x1 x2 x3 x4 : Int) : (binOp .neq 38 (.agg #[.int .i64 x1, .int .i64 x2, .int .i64 x3, .int .i64 x4]) (.agg #[.int .i64 x1, .int .i64 x2, .int .i64 x3, .int .i64 x4])).run Try.prog w = .ok (.bool false) w := by
  have info_int : (Try.prog.info? 3).isSome = true := by kernel_rfl
  obtain ⟨i, hi⟩ := Option.isSome_iff_exists.1 info_int
  have hp : Try.prog.plainKey 3 = true := by kernel_rfl
  have hc : Try.prog.cellsOf 3 = 1 := by kernel_rfl
  have h : ∀ d : Nat, (Op.equalIn (d + 1 + 1) 38 (.agg #[.int .i64 x1, .int .i64 x2, .int .i64 x3, .int .i64 x4]) (.agg #[.int .i64 x1, .int .i64 x2, .int .i64 x3, .int .i64 x4])).run Try.prog w = .ok true w := fun d => by
    rw [run_equalIn_array w (d + 1) _ _ Try.underlying38 hi, hc, show List.range 4 = [0, 1, 2, 3] from rfl]
    have p0 := run_part_plain w hp (xs := #[.int .i64 x1, .int .i64 x2, .int .i64 x3, .int .i64 x4]) (off := 0) (v := .int .i64 x1) rfl
    have p1 := run_part_plain w hp (xs := #[.int .i64 x1, .int .i64 x2, .int .i64 x3, .int .i64 x4]) (off := 1) (v := .int .i64 x2) rfl
    have p2 := run_part_plain w hp (xs := #[.int .i64 x1, .int .i64 x2, .int .i64 x3, .int .i64 x4]) (off := 2) (v := .int .i64 x3) rfl
    have p3 := run_part_plain w hp (xs := #[.int .i64 x1, .int .i64 x2, .int .i64 x3, .int .i64 x4]) (off := 3) (v := .int .i64 x4) rfl
    have q1 := run_equalIn_int (P := Try.prog) w d 3 .i64 .i64 x1 x1 Try.underlying3
    have q2 := run_equalIn_int (P := Try.prog) w d 3 .i64 .i64 x2 x2 Try.underlying3
    have q3 := run_equalIn_int (P := Try.prog) w d 3 .i64 .i64 x3 x3 Try.underlying3
    have q4 := run_equalIn_int (P := Try.prog) w d 3 .i64 .i64 x4 x4 Try.underlying3
    simp [Op.eqItems, Sem.run_bind, p0, p1, p2, p3, Result.andThen_ok, q1, q2, q3, q4]
  simp only [binOp]
  simp [Op.equal, Op.maxDepth, h 9998]
end Go.Proofs.Ytlpdlhmdhlcdlaa
