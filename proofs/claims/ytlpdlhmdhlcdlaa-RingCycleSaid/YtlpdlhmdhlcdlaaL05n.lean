/-
  The law RingCycle: the ring and the document's together, call by call. No conditions.
-/
import Derived.Test.YtlpdlhmdhlcdlaaL05j
import Derived.Test.YtlpdlhmdhlcdlaaMapI
import Derived.Test.YtlpdlhmdhlcdlaaOnceP
namespace Go.Proofs.Ytlpdlhmdhlcdlaa
set_option linter.unusedSimpArgs false
set_option linter.unusedVariables false
open Go.RowKit Go.Shelf

/-- The ring is R, the document's is S; the blocks X are kept from rows. -/
structure St (X : Nat → Prop) (w : World) (rg ba bw sb m : Nat) (R S : Seg4) (u : Nat) : Prop where
  sub : ∀ g, PX rg ba bw sb g → X g
  ring : RingIs w rg ba bw m R u
  ref : RefR w X sb m S
  lt : ∀ b, X b → b < w.heap.size
section
variable {X : Nat → Prop} {w w' : World} {rg ba bw sb m u : Nat} {R S S' : Seg4}
theorem St.apart (h : St X w rg ba bw sb m R S u) : ¬ RS rg ba bw sb := by
  obtain ⟨z0, z1, z2, z3, hbz, _⟩ := h.ref.blk
  obtain ⟨ne1, ne2, ne3⟩ := RingIs.apart h.ring hbz
  intro q
  rcases q with q | q | q
  · exact ne2 q.symm
  · exact ne1 q.symm
  · exact ne3 q.symm
theorem St.fr (h : St X w rg ba bw sb m R S u) (f : Fr Nil w w') : St X w' rg ba bw sb m R S u :=
  ⟨h.sub, h.ring.fr f (fun q => q) (fun q => q) (fun q => q), h.ref.fr f, fun b q => f.lt (h.lt b q)⟩
/-- Another block of X turned. -/
theorem St.map {k : Nat} (h : St X w rg ba bw sb m R S u) (f : Fr (fun x => x = k) w w') (hk : X k) (hn : ¬ PX rg ba bw sb k) : St X w' rg ba bw sb m R S u :=
  ⟨h.sub, h.ring.fr f (fun q => hn (.inr (.inl q.symm))) (fun q => hn (.inr (.inr (.inl q.symm)))) (fun q => hn (.inr (.inr (.inr q.symm)))), h.ref.frS f (fun g q => by cases (show g = k from q); exact hk) (fun q => hn (.inl q.symm)), fun b q => f.lt (h.lt b q)⟩
/-- One block more is kept from rows: a new one. -/
theorem St.ext {k : Nat} (h : St X w rg ba bw sb m R S u) (f : Fr Nil w w') (h1 : w.heap.size ≤ k) (h2 : k < w'.heap.size) : St (fun b => X b ∨ b = k) w' rg ba bw sb m R S u :=
  ⟨fun g q => .inl (h.sub g q), h.ring.fr f (fun q => q) (fun q => q) (fun q => q), (h.ref.ext (Y := fun b => X b ∨ b = k) (.inl h.ref.at_) (fun b q => q.imp id (fun q => by omega))).fr f, fun b q => by
    rcases q with q | q
    · exact f.lt (h.lt b q)
    · omega⟩
theorem St.size (h : St X w rg ba bw sb m R S u) : R.all.length ≤ m ∧ R.F.Nodup ∧ CellsIn m R.all := by
  have := h.ring.sizes
  exact ⟨this.1, this.2.1, this.2.2.1⟩
/-- The law's do. -/
theorem do1 (h : St X w rg ba bw sb m S S u) {k n : Int} {c : Nat} {b : Bool} {e : Nat} (hst : RStep m S.W S.F S.G S.B k n S' c b e) (hu : u ≤ 900000000000) (hm : m ≤ 2000) (hr : rightB S k n = true) :
    Calls Try.prog 19 #[.pointer (some ⟨rg, 0, none⟩), .pointer (some ⟨sb, 0, none⟩), .agg #[.int .i64 k, .int .i64 n]] w fun e' w' => e' = .returned (.agg #[.int .i64 (c : Int), .bool b, .int .i64 (e : Int)]) ∧ (∃ u', St X w' rg ba bw sb m S' S u' ∧ u' ≤ u + 20) ∧ Fr (PX rg ba bw sb) w w' := by
  have hle : S.all.length ≤ 100000 := by have := h.size.1; omega
  refine (ldo_any hst rg ba bw sb u w h.ring hu h.ref hm hle hr).mono ?_
  rintro e' w' ⟨rfl, ⟨u', hR, hu'⟩, f⟩
  exact ⟨rfl, ⟨u', ⟨h.sub, hR, h.ref.frS f (fun g q => h.sub g (.inr q)) h.apart, fun b q => f.lt (h.lt b q)⟩, hu'⟩, f.mono (fun _ _ q => .inr q)⟩
/-- The document's. -/
theorem do2 (h : St X w rg ba bw sb m R S u) {k n : Int} {c : Nat} {b : Bool} {e : Nat} (hst : RStep m S.W S.F S.G S.B k n S' c b e) (hm : m ≤ 2000) (hle : S.all.length ≤ 100000) (hnd : S.F.Nodup) :
    Calls Try.prog 20 #[.pointer (some ⟨sb, 0, none⟩), .agg #[.int .i64 k, .int .i64 n]] w fun e' w' => e' = .returned (.agg #[.int .i64 (c : Int), .bool b, .int .i64 (e : Int)]) ∧ St X w' rg ba bw sb m R S' u ∧ Fr (PX rg ba bw sb) w w' := by
  refine (ddo_any hst sb w h.ref (by omega) hle hnd h.lt).mono ?_
  rintro e' w' ⟨rfl, hS, f⟩
  have hap := h.apart
  exact ⟨rfl, ⟨h.sub, h.ring.fr f (fun q => hap (.inl q.symm)) (fun q => hap (.inr (.inl q.symm))) (fun q => hap (.inr (.inr q.symm))), hS, fun b q => f.lt (h.lt b q)⟩, f.mono (fun _ _ q => .inl q)⟩
theorem rs_px {T : World} (f : Fr (RS rg ba bw) w T) : Fr (PX rg ba bw sb) w T := f.mono (fun _ _ q => .inr q)
theorem St.rs (h : St X w rg ba bw sb m R S u) {R' : Seg4} {u' : Nat} (hR : RingIs w' rg ba bw m R' u') (f : Fr (RS rg ba bw) w w') : St X w' rg ba bw sb m R' S u' :=
  ⟨h.sub, hR, h.ref.frS f (fun g q => h.sub g (.inr q)) h.apart, fun b q => f.lt (h.lt b q)⟩
/-- A cell that is grown behind the others. -/
theorem grow1 {k : Nat} (h : St X w rg ba bw sb m ⟨wl k, [], [], []⟩ ⟨wl k, [], [], []⟩ u) (hu : u ≤ 900000000000) (hk : 3 * k + 4 ≤ m) :
    Calls Try.prog 9 #[.pointer (some ⟨rg, 0, none⟩), .int .i64 (3 * (k : Int) + 1)] w fun e w' => e = .returned (.int .i64 0) ∧ (∃ u', St X w' rg ba bw sb m ⟨wl (k + 1), [], [], []⟩ ⟨wl k, [], [], []⟩ u' ∧ u' ≤ u + 20) ∧ Fr (PX rg ba bw sb) w w' := by
  have hg := rgrow_in rg ba bw m _ u w h.ring (3 * k + 1) (by omega) (by omega) (fun y hy => by simp [Seg4.all] at hy; have := wl_mem k y hy; omega) hu
  rw [show ((3 * k + 1 : Nat) : Int) = 3 * (k : Int) + 1 by omega] at hg
  refine hg.mono ?_
  rintro e w' ⟨rfl, ⟨u', h2, hu2⟩, f2⟩
  exact ⟨rfl, ⟨u', h.rs h2 f2, hu2⟩, rs_px f2⟩
end
theorem right_one (S : Seg4) {k : Int} (n : Int) (hk : k ≠ 0) : rightB S k n = true := by simp [rightB, hk]
theorem step_grow (k m : Nat) (h : 3 * k + 4 ≤ m) : RStep m (wl k) [] [] [] 0 (3 * (k : Int) + 1) ⟨wl (k + 1), [], [], []⟩ 0 false 0 :=
  .growIn rfl (3 * k + 1) (by omega) (by omega) (by omega)
/-- An allocation. -/
theorem step_one {m : Nat} {W F G B : List Nat} {n : Int} {S : Seg4} {c : Nat} {b : Bool} {e : Nat} (h : RStep m W F G B 1 n S c b e) : (e = 2 ∧ S = ⟨W, F, G, B⟩) ∨ (e = 0 ∧ ∃ W', W = c :: W' ∧ S = ⟨W', F, G, B ++ [c]⟩) := by
  cases h with
  | takeNo hk hW => exact .inl ⟨rfl, rfl⟩
  | alloc hk c' W' hW => exact .inr ⟨rfl, W', hW, rfl⟩
  | drop hk => omega
  | growOut hk => omega
  | growIn hk => omega
  | shadeNo hk => omega
  | shade hk => omega
  | nextNo hk => omega
  | next hk => omega
  | doneNo hk => omega
  | done hk => omega
  | beginNo hk => omega
  | begin hk => omega
  | endNo hk => omega
  | endOk hk => omega
/-- A shading. -/
theorem step_two {m : Nat} {W F G B : List Nat} (n : Int) (hF : F ≠ []) : ∃ (F1 F2 : List Nat) (c : Nat), F = F1 ++ c :: F2 ∧ (n.tmod (F.length : Int)).natAbs = F1.length ∧ RStep m W F G B 2 n ⟨W, F1 ++ F2, G ++ [c], B⟩ 0 false 0 := by
  obtain ⟨S, c, b, e, h⟩ := rstep_total m W F G B 2 n
  cases h with
  | shadeNo hk h => exact absurd h hF
  | shade hk F1 F2 c' h1 h2 => exact ⟨F1, F2, c', h1, h2, .shade rfl F1 F2 c' h1 h2⟩
  | takeNo hk => omega
  | alloc hk => omega
  | drop hk => omega
  | growOut hk => omega
  | growIn hk => omega
  | nextNo hk => omega
  | next hk => omega
  | doneNo hk => omega
  | done hk => omega
  | beginNo hk => omega
  | begin hk => omega
  | endNo hk => omega
  | endOk hk => omega
/-- The keys of a row of cells. -/
def keys (L : List Nat) : List Int := L.map (fun y : Nat => (y : Int))
theorem keys_len (L : List Nat) : (keys L).length = L.length := by simp [keys]
theorem keys_snoc {L : List Nat} {c : Nat} (h : c ∉ L) : (if (c : Int) ∈ keys L then keys L else keys L ++ [(c : Int)]) = keys (L ++ [c]) := by
  have : (c : Int) ∉ keys L := by
    intro q
    obtain ⟨y, hy, e⟩ := List.mem_map.1 q
    have : y = c := by omega
    exact h (this ▸ hy)
  rw [if_neg this]
  simp [keys]
theorem cnt_snoc {L : List Nat} {c : Nat} : (fun y => if y = (c : Int) then cntF L (c : Int) + 1 else cntF L y) = cntF (L ++ [c]) := by
  funext y
  rw [cntF_snoc]
  by_cases q : y = (c : Int)
  · subst q; rfl
  · rw [if_neg q, if_neg q]
end Go.Proofs.Ytlpdlhmdhlcdlaa
