/-
  What may begin an expression (layer 8); appending in a region that draws its order. No conditions.
-/
import Derived.Test.YtlnmicddobgppaaGreatDoorParB
import Derived.Test.YtlnmicddobgppaaGreatDoorPar5
namespace Go.Proofs.YtlnmicddobgppaaGreatDoor
set_option linter.unusedSimpArgs false
set_option linter.unusedVariables false
open Go.RowKit

/-- wpList_push, as a step of a region that draws its order. -/
theorem step_push {P : Program} {ops : Array Oper} {o : Oper} {a : Act} {w : World} {K : Act → World → Prop} {Q : Exit → Act → World → Prop} {E : Prop}
    (hg : o.guard = none) (s x : Operand) (t : TypeId) (hop : o.op = Op.call { callee := Callee.builtin Builtin.append, args := #[s, x], argTypes := #[t, t] })
    (base : Nat) (e : TypeId) (i : TypeInfo) (z : Value) (size bytes : Nat) (h1 : P.underlying t = some (.slice e)) (h2 : P.info? e = some i) (h3 : i.zero = some z) (h4 : i.size = size) (h5 : i.bytes = bytes) (h6 : z.cells.size = size) (h7 : 0 < size)
    (v : Value) (n : Nat) (xs : List Value) (hs : a.eval s = v) (hown : w.ownsRow base e size v n xs) (news : List Value) (hx : a.eval x = .slice (some ⟨w.heap.size, 0, none⟩) 1 1) (hl : news.length = size) (h1c : ∀ u ∈ news, u.oneCell' = true)
    (b1 : n + 1 ≤ maxLen) (b2 : (n + 1) * bytes ≤ 140737488355328) (hbase : base ≤ w.heap.size)
    (hK : ∀ v' w', w'.ownsRow base e size v' (n + 1) (xs ++ news) → Fr (fun k => v.ownBlock = some k) w w' → (∀ k, v'.ownBlock = some k → v.ownBlock = some k ∨ w.heap.size ≤ k) → K (a.put o.dst v') w') :
    if Region.wanted o (yielded ops a.tmps) = true then Oper.wp P o a (w.alloc (.cells news.toArray e)) K Q else E := by
  have fA : Fr Nil w (w.alloc (.cells news.toArray e)) := (Fr.refl _ _).alloc _
  have hb : Blk (w.alloc (.cells news.toArray e)) w.heap.size news.toArray e := Blk.new _ _ _
  refine step_append_src hg s x t hop base e i z size bytes h1 h2 h3 h4 h5 h6 h7 v n xs hs (owns_frS hown fA (fun _ _ q => q)) (some ⟨w.heap.size, 0, none⟩) 1 1 news hx (.inr ⟨_, rfl, by rw [hl]; omega, fun j u hj => ?_⟩) h1c b1 b2 (Nat.le_trans hbase fA.size) ?_
  · rw [add_head, hb.cell]
    simpa using hj
  · intro v' w' r1 r2 r3
    refine hK v' w' r1 (Fr.grown (fA.of_nil) r2 (fun k q _ => q)) (fun k q => ?_)
    rcases r3 with r3 | r3
    · exact .inl (r3 ▸ q)
    · rw [r3] at q
      cases q
      exact .inr fA.size
section
variable {w : World} {pb : Nat} {vT : Value} {L : List TokV} {s : PS}
set_option maxRecDepth 100000 in
theorem pstarts_any (h : PAt w pb vT L s) :
    Calls Tryz.prog 93 #[.pointer (some ⟨pb, 0, none⟩)] w fun r w' => r = .returned (.bool (startsF L s)) ∧ Fr Nil w w' := by
  have HK := Lib.hid (pkind_any h)
  have HP := Lib.hid h
  obtain ⟨kd, hkd⟩ : ∃ kd, kindP L s = kd := ⟨_, rfl⟩
  rw [hkd] at HK
  obtain ⟨B, hB⟩ : ∃ B, startsF L s = B := ⟨_, rfl⟩
  rw [hB]
  have HB := Lib.hid hB
  by_cases hk : kd = 1 ∨ kd = 2 ∨ kd = 3 ∨ kd = 7
  · obtain rfl : B = true := by rw [← hB]; unfold startsF; rw [hkd, if_pos hk]
    clear h hB hkd
    rcases hk with rfl | rfl | rfl | rfl
    all_goals
      go_enter Tryz.func93, Tryz.ntmps93
      go_wp2_with fail
      refine HK.out.mono ?_
      rintro e w1 ⟨rfl, f1⟩
      go_wp2
      go_ret
      exact ⟨rfl, by (repeat (first | (with_reducible exact Fr.refl _ _) | (with_reducible assumption) | (with_reducible exact Fr.of_nil (by assumption)) | (with_reducible refine Fr.drew ?_) | (with_reducible refine Fr.drewN ?_ _) | (with_reducible refine Fr.alloc ?_ _) | (with_reducible refine Fr.set ?_ _ _ (by first | (intros; omega) | (simp; done) | (simp; omega))) | (with_reducible refine Fr.via ?_ (by assumption)) | (with_reducible refine Fr.comp ?_ (by assumption))))⟩
  · have hB2 : B = (seesF L [108, 101, 116] s || seesF L [99, 97, 115, 101] s || seesF L [40] s || seesF L [92] s) := by rw [← hB]; unfold startsF; rw [hkd, if_neg hk]
    have h1 : ¬ kd = 1 := fun q => hk (.inl q)
    have h2 : ¬ kd = 2 := fun q => hk (.inr (.inl q))
    have h3 : ¬ kd = 3 := fun q => hk (.inr (.inr (.inl q)))
    have h7 : ¬ kd = 7 := fun q => hk (.inr (.inr (.inr q)))
    have d1 : (kd == 1) = false := by simpa using h1
    have d2 : (kd == 2) = false := by simpa using h2
    have d3 : (kd == 3) = false := by simpa using h3
    have d7 : (kd == 7) = false := by simpa using h7
    have HS := Lib.hid (fun x w' (f : Fr Nil w w') => psees_any x (h.fr f))
    obtain ⟨x1, e1⟩ : ∃ x1, seesF L [108, 101, 116] s = x1 := ⟨_, rfl⟩
    obtain ⟨x2, e2⟩ : ∃ x2, seesF L [99, 97, 115, 101] s = x2 := ⟨_, rfl⟩
    obtain ⟨x3, e3⟩ : ∃ x3, seesF L [40] s = x3 := ⟨_, rfl⟩
    obtain ⟨x4, e4⟩ : ∃ x4, seesF L [92] s = x4 := ⟨_, rfl⟩
    rw [e1, e2, e3, e4] at hB2
    have HE := Lib.hid (And.intro e1 (And.intro e2 (And.intro e3 e4)))
    subst hB2
    clear h hB hkd hk e1 e2 e3 e4
    go_enter Tryz.func93, Tryz.ntmps93
    go_wp2_with fail
    refine HK.out.mono ?_
    rintro e w1 ⟨rfl, f1⟩
    go_wp2_with fail
    refine (HS.out [108, 101, 116] _ f1).mono ?_
    rw [HE.out.1]
    rintro e w2 ⟨rfl, f2⟩
    have F2 := f1.comp f2
    cases x1 with
    | true =>
      go_wp2
      go_ret
      exact ⟨rfl, F2⟩
    | false =>
      go_wp2_with fail
      refine (HS.out [99, 97, 115, 101] _ F2).mono ?_
      rw [HE.out.2.1]
      rintro e w3 ⟨rfl, f3⟩
      have F3 := F2.comp f3
      cases x2 with
      | true =>
        go_wp2
        go_ret
        exact ⟨rfl, F3⟩
      | false =>
        go_wp2_with fail
        refine (HS.out [40] _ F3).mono ?_
        rw [HE.out.2.2.1]
        rintro e w4 ⟨rfl, f4⟩
        have F4 := F3.comp f4
        cases x3 with
        | true =>
          go_wp2
          go_ret
          exact ⟨rfl, F4⟩
        | false =>
          go_wp2_with fail
          refine (HS.out [92] _ F4).mono ?_
          rw [HE.out.2.2.2]
          rintro e w5 ⟨rfl, f5⟩
          go_wp2
          go_ret
          exact ⟨by simp, F4.comp f5⟩
end
end Go.Proofs.YtlnmicddobgppaaGreatDoor
