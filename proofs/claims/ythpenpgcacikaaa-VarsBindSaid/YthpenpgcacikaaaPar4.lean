/-
  Binds and alternatives (layer 8), given what expr does one level deeper. No conditions.
-/
import Derived.Test.YthpenpgcacikaaaPar3
namespace Go.Proofs.Ythpenpgcacikaaa
set_option linter.unusedSimpArgs false
set_option linter.unusedVariables false
open Go.RowKit

/-- The eight cells of an expression. -/
def eC (k : Nat) (n : ByteArray) (f : Bool) (b : Nat) (a0 : Option Addr) (n0 c0 : Nat) (a1 : Option Addr) (n1 c1 : Nat) (a2 : Option Addr) (n2 c2 : Nat) (a3 : Option Addr) (n3 c3 : Nat) : List Value :=
  [.int .i64 (k : Int), .string n, .bool f, .int .u64 (b : Int), .slice a0 n0 c0, .slice a1 n1 c1, .slice a2 n2 c2, .slice a3 n3 c3]
theorem EAt.form {X : Nat → Prop} {w : World} {cs : List Value} {t : TE} (h : EAt X w cs t) : ∃ k n f b a0 n0 c0 a1 n1 c1 a2 n2 c2 a3 n3 c3, cs = eC k n f b a0 n0 c0 a1 n1 c1 a2 n2 c2 a3 n3 c3 := by
  cases h with
  | mk kc bc ac be ae bp an hp hk hk2 hb hb1 hb2 hb3 ha ha1 ha2 ha3 =>
    obtain ⟨_, _, rfl⟩ := RowC.shape hp
    obtain ⟨_, _, rfl⟩ := hk.shape
    obtain ⟨_, _, rfl⟩ := hb.shape
    obtain ⟨_, _, rfl⟩ := ha.shape
    exact ⟨_, _, _, _, _, _, _, _, _, _, _, _, _, _, _, _, rfl⟩
/-- An expression as a value. -/
def EVal (X : Nat → Prop) (w : World) (v : Value) (t : TE) : Prop := ∃ cs : List Value, v = .agg cs.toArray ∧ EAt X w cs t
/-- A bind as a value. -/
def BVal (X : Nat → Prop) (w : World) (v : Value) (t : TB) : Prop :=
  ∃ (pn : Value) (cs : List Value), v = .agg (.string ⟨t.name.toArray⟩ :: pn :: cs).toArray ∧ RowS X w pn t.params ∧ EAt X w cs t.body
/-- An alternative as a value. -/
def AVal (X : Nat → Prop) (w : World) (v : Value) (t : TA) : Prop :=
  ∃ (pn : Value) (cs : List Value), v = .agg (.int .i64 (t.kind : Int) :: .string ⟨t.name.toArray⟩ :: .bool t.flt :: .int .u64 (t.bits : Int) :: pn :: cs).toArray ∧ RowS X w pn t.names ∧ EAt X w cs t.body
/-- What a function that reads an expression does. -/
def Reads (pb : Nat) (vT : Value) (L : List TokV) (fn : Nat) (deep : Int) (ex : PS → TE × PS) : Prop :=
  ∀ w s, PAt w pb vT L s → Calls Try.prog fn #[.pointer (some ⟨pb, 0, none⟩), .int .i64 deep] w fun r w' => ∃ v, r = .returned v ∧ EVal (fun b => b < w.heap.size) w' v (ex s).1 ∧ PAt w' pb vT L (ex s).2 ∧ Fr (fun b => b = pb) w w'
theorem RowC.tail {X : Nat → Prop} {w : World} {b off n cap size : Nat} {cs : Nat → List Value} (h : RowC X w (.slice (some ⟨b, off, none⟩) (n + 1) cap) (n + 1) size cs) (A : Option Addr) (hA : 0 < n → A = some ⟨b, off + size, none⟩) : RowC X w (.slice A n (cap - 1)) n size (fun i => cs (i + 1)) := by
  obtain ⟨a1, cap1, e, h1, h2, hc⟩ := h
  cases e
  refine ⟨_, _, rfl, by omega, by omega, fun i hi => ?_⟩
  obtain ⟨b', off', e, hb, hl, hcell⟩ := hc (i + 1) (by omega)
  cases e
  refine ⟨b, off + size, hA (by omega), hb, hl, fun j u hj => ?_⟩
  have := hcell j u hj
  rw [show off + size + i * size + j = off + (i + 1) * size + j by rw [Nat.add_mul]; omega]
  exact this
section
variable {w : World} {pb : Nat} {vT : Value} {L : List TokV} {s : PS} {deep : Nat} {ex : PS → TE × PS}
set_option maxRecDepth 100000 in
set_option maxHeartbeats 2000000 in
theorem pbind_any (h : PAt w pb vT L s) (hd : deep ≤ 1000) (hex : Reads pb vT L 62 ((deep : Int) + 1) ex) :
    Calls Try.prog 39 #[.pointer (some ⟨pb, 0, none⟩), .int .i64 (deep : Int)] w fun r w' => ∃ v, r = .returned v ∧ BVal (fun b => b < w.heap.size) w' v (bindF L ex s).1 ∧ PAt w' pb vT L (bindF L ex s).2 ∧ Fr (fun b => b = pb) w w' := by
  obtain ⟨P, hP⟩ : ∃ P, namesF L (fuelP L) true [] s = P := ⟨_, rfl⟩
  obtain ⟨l, s1⟩ := P
  have e0 : bindF L ex s = (.mk (l.headD []) l.tail (ex (needF L [61] s1)).1, (ex (needF L [61] s1)).2) := by unfold bindF; rw [hP]
  rw [e0]
  have hpl := h.blk.lt
  have HP := Lib.hid (And.intro h (And.intro hex hP))
  have i1 : IntKind.i64.wrap ((deep : Int) + 1) = (deep : Int) + 1 := by rw [IntKind.wrap_i64]; omega
  clear h hex hP e0
  go_enter Try.func39, Try.ntmps39
  go_wp2_with fail
  have fA : Fr Nil w (w.alloc (.cells #[.string ⟨#[]⟩, .slice none 0 0, .int .i64 0, .string ⟨#[]⟩, .bool false, .int .u64 0, .slice none 0 0, .slice none 0 0, .slice none 0 0, .slice none 0 0] 34)) := by (repeat (first | (with_reducible exact Fr.refl _ _) | (with_reducible assumption) | (with_reducible exact Fr.of_nil (by assumption)) | (with_reducible refine Fr.drew ?_) | (with_reducible refine Fr.drewN ?_ _) | (with_reducible refine Fr.alloc ?_ _) | (with_reducible refine Fr.set ?_ _ _ (by first | (intros; omega) | (simp; done) | (simp; omega))) | (with_reducible refine Fr.via ?_ (by assumption)) | (with_reducible refine Fr.comp ?_ (by assumption))))
  have bA := Blk.new w #[.string ⟨#[]⟩, .slice none 0 0, .int .i64 0, .string ⟨#[]⟩, .bool false, .int .u64 0, .slice none 0 0, .slice none 0 0, .slice none 0 0, .slice none 0 0] 34
  refine (pnames_any true (HP.out.1.fr fA)).mono ?_
  rw [HP.out.2.2]
  rintro e w1 ⟨vl, rfl, hl, h1, f1⟩
  obtain ⟨T, hT⟩ : ∃ T, w.heap.size = T := ⟨_, rfl⟩
  have hA : (w.alloc (.cells #[.string ⟨#[]⟩, .slice none 0 0, .int .i64 0, .string ⟨#[]⟩, .bool false, .int .u64 0, .slice none 0 0, .slice none 0 0, .slice none 0 0, .slice none 0 0] 34)).heap.size = T + 1 := by simp [hT]
  rw [hA] at hl
  rw [hT] at hpl bA ⊢
  have F1 : Fr (fun b => b = pb) w w1 := (Fr.of_nil fA).comp f1
  have hne : T ≠ pb := by omega
  have bA1 := f1.blk bA hne
  have H1 := Lib.hid (And.intro h1 (And.intro hl (And.intro F1 bA1)))
  clear h1 hl F1 bA1 bA fA f1 hA
  obtain ⟨av, cv, rfl⟩ := H1.out.2.1.shape
  go_wp2_with fail
  refine (pneed_any [61] H1.out.1).mono ?_
  rintro e w2 ⟨rfl, h2, f2⟩
  have F2 := H1.out.2.2.1.comp f2
  have H2 := Lib.hid (And.intro h2 (And.intro (RowS.fr H1.out.2.1 f2 (fun b q => by have q' : b = pb := q; omega)) (And.intro F2 (f2.blk H1.out.2.2.2 hne))))
  clear h2 F2 f2 H1
  go_wp2_with fail
  refine (HP.out.2.1 _ _ H2.out.1).mono ?_
  rintro e w3 ⟨ve, rfl, he, h3, f3⟩
  have F3 := H2.out.2.2.1.comp f3
  have bA3 := f3.blk H2.out.2.2.2 hne
  obtain ⟨cs, rfl, hE⟩ := he
  obtain ⟨k, nm, fl, bi, a0, n0, c0, a1, n1, c1, a2, n2, c2, a3, n3, c3, rfl⟩ := hE.form
  have hT2 := H2.out.2.2.2.lt
  have hsT := H2.out.2.2.1.size
  have hl3 := RowS.fr H2.out.2.1 f3 (fun b q => by have q' : b = pb := q; omega)
  have H3 := Lib.hid (And.intro h3 (And.intro hl3 hE))
  have hTl := bA3.lt
  have hAc := bA3.cell
  have hAf := bA3.free
  clear h3 f3 H2 bA3 hE
  unfold eC
  have fin : Hid (∀ wf, Fr (fun b => b = T) w3 wf → Fr (fun b => b = pb) w wf ∧ PAt wf pb vT L (ex (needF L [61] s1)).2 ∧ EAt (fun b => b < w.heap.size) wf (eC k nm fl bi a0 n0 c0 a1 n1 c1 a2 n2 c2 a3 n3 c3) (ex (needF L [61] s1)).1 ∧ RowS (fun b => b < T + 1) wf (.slice av l.length cv) l) := fun wf g => by
    have FF : Fr (fun b => b = pb) w wf := F3.trans g (fun b hb q => by have q' : b = T := q; omega)
    exact ⟨FF, HP.out.1.keep FF H3.out.1 g (fun q => hne q.symm), (H3.out.2.2.fr g (fun b q => by have q' : b = T := q; omega)).mono (fun b _ q => by omega), RowS.fr H3.out.2.1 g (fun b q => by have q' : b = T := q; omega)⟩
  cases l with
  | nil =>
    have finN : Hid (∀ wf, Fr (fun b => b = T) w3 wf → ∃ v', Ending.returned (.agg (.string ⟨#[]⟩ :: .slice none 0 0 :: eC k nm fl bi a0 n0 c0 a1 n1 c1 a2 n2 c2 a3 n3 c3).toArray) = .returned v' ∧ BVal (fun b => b < T) wf v' (.mk (([] : List (List UInt8)).headD []) ([] : List (List UInt8)).tail (ex (needF L [61] s1)).1) ∧ PAt wf pb vT L (ex (needF L [61] s1)).2 ∧ Fr (fun b => b = pb) w wf) := fun wf g => by
      obtain ⟨q1, q2, q3, q4⟩ := fin.out wf g
      rw [hT] at q3
      exact ⟨_, rfl, ⟨_, _, rfl, RowC.nil, q3⟩, q2, q1⟩
    simp only [List.length_nil]
    have i2 : ¬ (0 : Int) < ((0 : Nat) : Int) := by omega
    clear hl3 fin
    go_wp2
    (try simp only [Exit.inBlock, Exit.then])
    refine bodyPost_ret (v := .agg (.string ⟨#[]⟩ :: .slice none 0 0 :: eC k nm fl bi a0 n0 c0 a1 n1 c1 a2 n2 c2 a3 n3 c3).toArray) (by simp [results, Try.results39, go_sem, eC, *]) rfl ?_
    exact finN.out _ (by (repeat (first | (with_reducible exact Fr.refl _ _) | (with_reducible assumption) | (with_reducible exact Fr.of_nil (by assumption)) | (with_reducible refine Fr.drew ?_) | (with_reducible refine Fr.drewN ?_ _) | (with_reducible refine Fr.alloc ?_ _) | (with_reducible refine Fr.set ?_ _ _ (by first | (intro _; exact rfl) | (intro _; exact .inl rfl) | (intro _; exact .inr rfl) | (intro q; exact absurd q (Nat.lt_irrefl _)) | (intro q; simp at q; omega))) | (with_reducible refine Fr.via ?_ (by assumption)) | (with_reducible refine Fr.comp ?_ (by assumption)))))
  | cons x r =>
    obtain ⟨b0, off0, rfl, hb0, hc0⟩ := RowC.at hl3 (i := 0) (by simp)
    have p0 := hc0 0 _ rfl
    simp at p0
    have hbl := World.block_lt_of_cell? _ _ p0
    obtain ⟨n, hn⟩ : ∃ n, (x :: r).length = n + 1 := ⟨r.length, by simp⟩
    rw [hn] at fin ⊢
    have hcap : n + 1 ≤ cv := by
      obtain ⟨_, _, e, q1, _⟩ := hl3
      cases e
      simpa [← hn] using q1
    have i2 : (0 : Int) < ((n + 1 : Nat) : Int) := by omega
    have i3 : (1 : Int) ≤ ((n + 1 : Nat) : Int) := by omega
    have i4 : ((n + 1 : Nat) : Int) ≤ (cv : Int) := by omega
    have i5 : (1 : Int) ≤ (cv : Int) := by omega
    have HN := Lib.hid (And.intro hn hcap)
    have finR : Hid (∀ wf, Fr (fun b => b = T) w3 wf → ∃ v', Ending.returned (.agg (.string ⟨x.toArray⟩ :: .slice (some ⟨b0, off0 + 1, none⟩) n (cv - 1) :: eC k nm fl bi a0 n0 c0 a1 n1 c1 a2 n2 c2 a3 n3 c3).toArray) = .returned v' ∧ BVal (fun b => b < T) wf v' (.mk ((x :: r).headD []) (x :: r).tail (ex (needF L [61] s1)).1) ∧ PAt wf pb vT L (ex (needF L [61] s1)).2 ∧ Fr (fun b => b = pb) w wf) := fun wf g => by
      obtain ⟨q1, q2, q3, q4⟩ := fin.out wf g
      rw [hT] at q3
      refine ⟨_, rfl, ⟨_, _, rfl, ?_, q3⟩, q2, q1⟩
      have hr : r.length = n := by have := HN.out.1; simp at this; exact this
      have q5 : RowC (fun b => b < T + 1) wf (.slice (some ⟨b0, off0, none⟩) (n + 1) cv) (n + 1) 1 (fun i => [.string ⟨((x :: r).getD i []).toArray⟩]) := by
        have h := q4
        unfold RowS at h
        rw [HN.out.1] at h
        exact h
      have q6 := (RowC.tail q5 (some ⟨b0, off0 + 1, none⟩) (fun hz => rfl)).mono (Y := fun b => b < T) (by decide) (fun b _ q => by omega)
      show RowC _ _ _ r.length 1 _
      rw [hr]
      exact q6.congr (fun i hi => rfl)
    have finL : Hid (cv = 1 → ∀ wf, Fr (fun b => b = T) w3 wf → ∃ v', Ending.returned (.agg (.string ⟨x.toArray⟩ :: .slice (some ⟨b0, off0, none⟩) n 0 :: eC k nm fl bi a0 n0 c0 a1 n1 c1 a2 n2 c2 a3 n3 c3).toArray) = .returned v' ∧ BVal (fun b => b < T) wf v' (.mk ((x :: r).headD []) (x :: r).tail (ex (needF L [61] s1)).1) ∧ PAt wf pb vT L (ex (needF L [61] s1)).2 ∧ Fr (fun b => b = pb) w wf) := fun hc wf g => by
      obtain ⟨q1, q2, q3, q4⟩ := fin.out wf g
      rw [hT] at q3
      refine ⟨_, rfl, ⟨_, _, rfl, ?_, q3⟩, q2, q1⟩
      have hr : r.length = n := by have := HN.out.1; simp at this; exact this
      have q5 : RowC (fun b => b < T + 1) wf (.slice (some ⟨b0, off0, none⟩) (n + 1) cv) (n + 1) 1 (fun i => [.string ⟨((x :: r).getD i []).toArray⟩]) := by
        have h := q4
        unfold RowS at h
        rw [HN.out.1] at h
        exact h
      have q6 := (RowC.tail q5 (some ⟨b0, off0, none⟩) (fun hz => by have := HN.out.2; omega)).mono (Y := fun b => b < T) (by decide) (fun b _ q => by omega)
      show RowC _ _ _ r.length 1 _
      rw [hr]
      rw [show cv - 1 = 0 by omega] at q6
      exact q6.congr (fun i hi => rfl)
    clear hl3 hc0 hn fin
    go_wp2
    case inr =>
      (try simp only [Exit.inBlock, Exit.then])
      refine bodyPost_ret (v := .agg (.string ⟨x.toArray⟩ :: .slice (some ⟨b0, off0 + 1, none⟩) n (cv - 1) :: eC k nm fl bi a0 n0 c0 a1 n1 c1 a2 n2 c2 a3 n3 c3).toArray) (by simp [results, Try.results39, go_sem, eC, *]) rfl ?_
      exact finR.out _ (by (repeat (first | (with_reducible exact Fr.refl _ _) | (with_reducible assumption) | (with_reducible exact Fr.of_nil (by assumption)) | (with_reducible refine Fr.drew ?_) | (with_reducible refine Fr.drewN ?_ _) | (with_reducible refine Fr.alloc ?_ _) | (with_reducible refine Fr.set ?_ _ _ (by first | (intro _; exact rfl) | (intro _; exact .inl rfl) | (intro _; exact .inr rfl) | (intro q; exact absurd q (Nat.lt_irrefl _)) | (intro q; simp at q; omega))) | (with_reducible refine Fr.via ?_ (by assumption)) | (with_reducible refine Fr.comp ?_ (by assumption)))))
    case inl =>
      (try simp only [Exit.inBlock, Exit.then])
      refine bodyPost_ret (v := .agg (.string ⟨x.toArray⟩ :: .slice (some ⟨b0, off0, none⟩) n 0 :: eC k nm fl bi a0 n0 c0 a1 n1 c1 a2 n2 c2 a3 n3 c3).toArray) (by simp [results, Try.results39, go_sem, eC, *]) rfl ?_
      exact finL.out (by omega) _ (by (repeat (first | (with_reducible exact Fr.refl _ _) | (with_reducible assumption) | (with_reducible exact Fr.of_nil (by assumption)) | (with_reducible refine Fr.drew ?_) | (with_reducible refine Fr.drewN ?_ _) | (with_reducible refine Fr.alloc ?_ _) | (with_reducible refine Fr.set ?_ _ _ (by first | (intro _; exact rfl) | (intro _; exact .inl rfl) | (intro _; exact .inr rfl) | (intro q; exact absurd q (Nat.lt_irrefl _)) | (intro q; simp at q; omega))) | (with_reducible refine Fr.via ?_ (by assumption)) | (with_reducible refine Fr.comp ?_ (by assumption)))))
end
end Go.Proofs.Ythpenpgcacikaaa
