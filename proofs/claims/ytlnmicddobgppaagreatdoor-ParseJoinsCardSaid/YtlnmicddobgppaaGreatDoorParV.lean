/-
  Trees as they lie in memory (layer 8); a reader of tokens as it lies. No conditions.
-/
import Derived.Test.YtlnmicddobgppaaGreatDoorParM
import Derived.Test.YtlnmicddobgppaaGreatDoorRef07j
namespace Go.Proofs.YtlnmicddobgppaaGreatDoor
set_option linter.unusedSimpArgs false
set_option linter.unusedVariables false
open Go.RowKit

/-- A row of n, each of so many cells, in none of the blocks X. -/
def RowC (X : Nat → Prop) (w : World) (v : Value) (n size : Nat) (cs : Nat → List Value) : Prop :=
  ∃ a cap, v = .slice a n cap ∧ n ≤ cap ∧ cap ≤ maxLen ∧ ∀ i, i < n → ∃ b off, a = some ⟨b, off, none⟩ ∧ ¬ X b ∧ (cs i).length = size ∧ ∀ j u, (cs i)[j]? = some u → w.cell? ⟨b, off + i * size + j, none⟩ = some u
section
variable {X : Nat → Prop} {w w' : World} {v : Value} {n size : Nat} {cs : Nat → List Value}
theorem RowC.fr {S : Nat → Prop} (h : RowC X w v n size cs) (f : Fr S w w') (hs : ∀ b, S b → X b) : RowC X w' v n size cs := by
  obtain ⟨a, cap, rfl, h1, h2, hc⟩ := h
  refine ⟨a, cap, rfl, h1, h2, fun i hi => ?_⟩
  obtain ⟨b, off, rfl, hb, hl, hcell⟩ := hc i hi
  exact ⟨b, off, rfl, hb, hl, fun j u hj => f.cell (hcell j u hj) (fun q => hb (hs b q))⟩
theorem RowC.mono {Y : Nat → Prop} (h : RowC X w v n size cs) (hz : 0 < size) (hs : ∀ b, b < w.heap.size → Y b → X b) : RowC Y w v n size cs := by
  obtain ⟨a, cap, rfl, h1, h2, hc⟩ := h
  refine ⟨a, cap, rfl, h1, h2, fun i hi => ?_⟩
  obtain ⟨b, off, rfl, hb, hl, hcell⟩ := hc i hi
  exact ⟨b, off, rfl, fun q => hb (hs b (World.block_lt_of_cell? _ _ (hcell 0 _ (List.getElem?_eq_getElem (by omega)))) q), hl, hcell⟩
theorem RowC.nil {X : Nat → Prop} {w : World} {size : Nat} {cs : Nat → List Value} : RowC X w (.slice none 0 0) 0 size cs := ⟨none, 0, rfl, Nat.le_refl _, by unfold maxLen; omega, fun i hi => by omega⟩
theorem RowC.congr {ds : Nat → List Value} (h : RowC X w v n size cs) (e : ∀ i, i < n → cs i = ds i) : RowC X w v n size ds := by
  obtain ⟨a, cap, rfl, h1, h2, hc⟩ := h
  refine ⟨a, cap, rfl, h1, h2, fun i hi => ?_⟩
  rw [← e i hi]
  exact hc i hi
theorem RowC.shape (h : RowC X w v n size cs) : ∃ a cap, v = .slice a n cap := by
  obtain ⟨a, cap, rfl, _⟩ := h
  exact ⟨a, cap, rfl⟩
theorem RowC.at {a : Option Addr} {cap : Nat} (h : RowC X w (.slice a n cap) n size cs) {i : Nat} (hi : i < n) : ∃ b off, a = some ⟨b, off, none⟩ ∧ ¬ X b ∧ ∀ j u, (cs i)[j]? = some u → w.cell? ⟨b, off + i * size + j, none⟩ = some u := by
  obtain ⟨a1, cap1, e, h1, h2, hc⟩ := h
  cases e
  obtain ⟨b, off, rfl, hb, hl, hcell⟩ := hc i hi
  exact ⟨b, off, rfl, hb, hcell⟩
/-- A row of the call's own. -/
theorem RowC.of_own {base : Nat} {t : TypeId} {xs : List Value} (h : w.ownsRow base t size v n xs) (hX : ∀ b, X b → b < base) (hl : ∀ i, i < n → (cs i).length = size) (hc : ∀ i, i < n → ∀ j u, (cs i)[j]? = some u → xs[i * size + j]? = some u) : RowC X w v n size cs := by
  rcases h.2 with ⟨rfl, rfl⟩ | ⟨g, cap, cur, rfl, h1, hb, h2, h3, h4, h5⟩
  · exact .nil
  · refine ⟨_, cap, rfl, h2, h3, fun i hi => ⟨g, 0, rfl, fun q => by have := hX g q; omega, hl i hi, fun j u hj => ?_⟩⟩
    have hb' : Blk w g cur t := hb
    rw [Nat.zero_add, hb'.cell]
    have hx := hc i hi j u hj
    rw [← h5] at hx
    have hlt : i * size + j < n * size := by
      have h1 := hl i hi
      have h2 := List.getElem?_eq_some_iff.1 hj
      obtain ⟨h2, _⟩ := h2
      have h3 : i * size + size ≤ n * size := by
        have := Nat.mul_le_mul_right size (show i + 1 ≤ n from hi)
        rw [Nat.add_mul, Nat.one_mul] at this
        exact this
      omega
    rw [List.getElem?_take_of_lt hlt] at hx
    simpa using hx
end
/-- A row of names. -/
def RowS (X : Nat → Prop) (w : World) (v : Value) (l : List (List UInt8)) : Prop := RowC X w v l.length 1 (fun i => [.string ⟨(l.getD i []).toArray⟩])
/-- An expression as its eight cells lie. -/
inductive EAt (X : Nat → Prop) (w : World) : List Value → TE → Prop
  | mk {kind : Nat} {name : List UInt8} {flt : Bool} {bits : Nat} {params : List (List UInt8)} {kids : List TE} {binds : List TB} {alts : List TA} {pv kv bv av : Value}
    (kc bc ac be ae : Nat → List Value) (bp an : Nat → Value)
    (hp : RowS X w pv params)
    (hk : RowC X w kv kids.length 8 kc) (hk2 : ∀ i (h : i < kids.length), EAt X w (kc i) kids[i])
    (hb : RowC X w bv binds.length 10 bc) (hb1 : ∀ i (h : i < binds.length), bc i = .string ⟨binds[i].name.toArray⟩ :: bp i :: be i) (hb2 : ∀ i (h : i < binds.length), RowS X w (bp i) binds[i].params) (hb3 : ∀ i (h : i < binds.length), EAt X w (be i) binds[i].body)
    (ha : RowC X w av alts.length 13 ac) (ha1 : ∀ i (h : i < alts.length), ac i = .int .i64 (alts[i].kind : Int) :: .string ⟨alts[i].name.toArray⟩ :: .bool alts[i].flt :: .int .u64 (alts[i].bits : Int) :: an i :: ae i) (ha2 : ∀ i (h : i < alts.length), RowS X w (an i) alts[i].names) (ha3 : ∀ i (h : i < alts.length), EAt X w (ae i) alts[i].body) :
    EAt X w [.int .i64 (kind : Int), .string ⟨name.toArray⟩, .bool flt, .int .u64 (bits : Int), pv, kv, bv, av] (.mk kind name flt bits params kids binds alts)
section
variable {X : Nat → Prop} {w w' : World}
theorem RowS.fr {S : Nat → Prop} {v : Value} {l : List (List UInt8)} (h : RowS X w v l) (f : Fr S w w') (hs : ∀ b, S b → X b) : RowS X w' v l := RowC.fr h f hs
theorem EAt.fr {S : Nat → Prop} {cs : List Value} {t : TE} (h : EAt X w cs t) (f : Fr S w w') (hs : ∀ b, S b → X b) : EAt X w' cs t := by
  induction h with
  | mk kc bc ac be ae bp an hp hk hk2 hb hb1 hb2 hb3 ha ha1 ha2 ha3 ik ib ia =>
    exact .mk kc bc ac be ae bp an (hp.fr f hs) (hk.fr f hs) ik (hb.fr f hs) hb1 (fun i h => (hb2 i h).fr f hs) ib (ha.fr f hs) ha1 (fun i h => (ha2 i h).fr f hs) ia
theorem EAt.mono {Y : Nat → Prop} {cs : List Value} {t : TE} (h : EAt X w cs t) (hs : ∀ b, b < w.heap.size → Y b → X b) : EAt Y w cs t := by
  induction h with
  | mk kc bc ac be ae bp an hp hk hk2 hb hb1 hb2 hb3 ha ha1 ha2 ha3 ik ib ia =>
    exact .mk kc bc ac be ae bp an (RowC.mono hp (by decide) hs) (hk.mono (by decide) hs) ik (hb.mono (by decide) hs) hb1 (fun i h => RowC.mono (hb2 i h) (by decide) hs) ib (ha.mono (by decide) hs) ha1 (fun i h => RowC.mono (ha2 i h) (by decide) hs) ia
theorem EAt.zero : EAt X w [.int .i64 0, .string ⟨#[]⟩, .bool false, .int .u64 0, .slice none 0 0, .slice none 0 0, .slice none 0 0, .slice none 0 0] zeroE :=
  .mk (kind := 0) (bits := 0) (name := []) (params := []) (kids := []) (binds := []) (alts := []) (fun _ => []) (fun _ => []) (fun _ => []) (fun _ => []) (fun _ => []) (fun _ => .bool false) (fun _ => .bool false) .nil .nil (fun i h => absurd h (Nat.not_lt_zero i)) .nil (fun i h => absurd h (Nat.not_lt_zero i)) (fun i h => absurd h (Nat.not_lt_zero i)) (fun i h => absurd h (Nat.not_lt_zero i)) .nil (fun i h => absurd h (Nat.not_lt_zero i)) (fun i h => absurd h (Nat.not_lt_zero i)) (fun i h => absurd h (Nat.not_lt_zero i))
theorem EAt.len {cs : List Value} {t : TE} (h : EAt X w cs t) : cs.length = 8 := by cases h; rfl
end
/-- A reader of tokens: its record in block pb. -/
structure PAt (w : World) (pb : Nat) (vT : Value) (L : List TokV) (s : PS) : Prop where
  blk : Blk w pb #[vT, .int .i64 (s.at_ : Int), .int .i64 (s.e : Int), .int .i64 (s.line : Int)] 76
  toks : RowC (fun b => b = pb) w vT L.length 5 (fun i => tokCells (L.getD i (none_ 0)))
  le : s.at_ ≤ L.length
  sz : L.length ≤ 1000000
theorem PAt.fr {w w' : World} {pb : Nat} {vT : Value} {L : List TokV} {s : PS} (h : PAt w pb vT L s) (f : Fr Nil w w') : PAt w' pb vT L s := ⟨f.blk h.blk (fun q => q), h.toks.fr f (fun _ q => q.elim), h.le, h.sz⟩
theorem PAt.to {w w' : World} {pb : Nat} {vT : Value} {L : List TokV} {s t : PS} (h : PAt w pb vT L s) (f : Fr (fun b => b = pb) w w') (hb : Blk w' pb #[vT, .int .i64 (t.at_ : Int), .int .i64 (t.e : Int), .int .i64 (t.line : Int)] 76) (hl : t.at_ ≤ L.length) : PAt w' pb vT L t :=
  ⟨hb, h.toks.fr f (fun _ q => q), hl, h.sz⟩
end Go.Proofs.YtlnmicddobgppaaGreatDoor
