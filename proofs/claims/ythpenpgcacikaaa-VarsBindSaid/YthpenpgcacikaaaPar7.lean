/-
  Rows of atoms as an expression (layer 8), given what expr does one level deeper. No conditions.
-/
import Derived.Test.YthpenpgcacikaaaPar6
namespace Go.Proofs.Ythpenpgcacikaaa
set_option linter.unusedSimpArgs false
set_option linter.unusedVariables false
open Go.RowKit

theorem EAt.withKids {X : Nat → Prop} {w : World} {k : Nat} {n : ByteArray} {f : Bool} {b : Nat} {a0 : Option Addr} {n0 c0 : Nat} {a1 : Option Addr} {n1 c1 : Nat} {a2 : Option Addr} {n2 c2 : Nat} {a3 : Option Addr} {n3 c3 : Nat} {t : TE} {ks : List TE} {a4 : Option Addr} {n4 c4 : Nat} {kc : Nat → List Value}
    (h : EAt X w (eC k n f b a0 n0 c0 a1 n1 c1 a2 n2 c2 a3 n3 c3) t) (hk : RowC X w (.slice a4 n4 c4) ks.length 8 kc) (hk2 : ∀ i (h : i < ks.length), EAt X w (kc i) ks[i]) : EAt X w (eC k n f b a0 n0 c0 a4 n4 c4 a2 n2 c2 a3 n3 c3) (t.withKids ks) := by
  generalize hcs : eC k n f b a0 n0 c0 a1 n1 c1 a2 n2 c2 a3 n3 c3 = cs at h
  cases h with
  | mk kc' bc ac be ae bp an hp hk' hk2' hb hb1 hb2 hb3 ha ha1 ha2 ha3 =>
    unfold eC at hcs
    injection hcs with e1 hcs
    injection hcs with e2 hcs
    injection hcs with e3 hcs
    injection hcs with e4 hcs
    injection hcs with e5 hcs
    injection hcs with e6 hcs
    injection hcs with e7 hcs
    injection hcs with e8 hcs
    subst e5 e7 e8
    unfold eC TE.withKids
    rw [e1, e2, e3, e4]
    exact .mk kc bc ac be ae bp an hp hk hk2 hb hb1 hb2 hb3 ha ha1 ha2 ha3
theorem EAt.app {X : Nat → Prop} {w : World} {v : Value} {ks : List TE} {kc : Nat → List Value} (kind : Nat) (name : List UInt8) (hk : RowC X w v ks.length 8 kc) (hk2 : ∀ i (h : i < ks.length), EAt X w (kc i) ks[i]) : EAt X w [.int .i64 (kind : Int), .string ⟨name.toArray⟩, .bool false, .int .u64 ((0 : Nat) : Int), .slice none 0 0, v, .slice none 0 0, .slice none 0 0] (.mk kind name false 0 [] ks [] []) :=
  .mk (params := []) (binds := []) (alts := []) kc (fun _ => []) (fun _ => []) (fun _ => []) (fun _ => []) (fun _ => .bool false) (fun _ => .bool false) .nil hk hk2 .nil (fun i h => absurd h (Nat.not_lt_zero i)) (fun i h => absurd h (Nat.not_lt_zero i)) (fun i h => absurd h (Nat.not_lt_zero i)) .nil (fun i h => absurd h (Nat.not_lt_zero i)) (fun i h => absurd h (Nat.not_lt_zero i)) (fun i h => absurd h (Nat.not_lt_zero i))
def rowEnd (L : List TokV) (kd : Int) (l : List TE) (s : PS) : TE × PS :=
  match l with
  | [] => (zeroE, faultF L 3 s)
  | [e] => (e, s)
  | e :: r => if kd = 2 ∨ kd = 7 then (e.withKids r, s) else (.mk 4 [] false 0 [] (e :: r) [] [], s)
theorem rowF_eq (L : List TokV) (ex : PS → TE × PS) (s : PS) : rowF L ex s = rowEnd L (kindP L s) (atomsF L ex (fuelP L) [] s).1 (atomsF L ex (fuelP L) [] s).2 := by
  unfold rowF
  generalize atomsF L ex (fuelP L) [] s = p
  obtain ⟨l, t⟩ := p
  rcases l with _ | ⟨e, _ | ⟨e2, r⟩⟩ <;> rfl
section
variable {w : World} {pb : Nat} {vT : Value} {L : List TokV} {s : PS} {deep : Nat} {ex : PS → TE × PS}
set_option maxRecDepth 100000 in
set_option maxHeartbeats 4000000 in
theorem prow_any (h : PAt w pb vT L s) (hd : deep ≤ 1000) (hgo : ∀ s, Goes L s (ex s).2) (hex : Reads pb vT L 62 ((deep : Int) + 1) ex) :
    Calls Try.prog 76 #[.pointer (some ⟨pb, 0, none⟩), .int .i64 (deep : Int)] w fun r w' => ∃ v, r = .returned v ∧ EVal (fun b => b < w.heap.size) w' v (rowF L ex s).1 ∧ PAt w' pb vT L (rowF L ex s).2 ∧ Fr (fun b => b = pb) w w' := by
  obtain ⟨l, s1, hP⟩ : ∃ l s1, atomsF L ex (fuelP L) [] s = (l, s1) := ⟨_, _, rfl⟩
  obtain ⟨kd, hkd⟩ : ∃ kd, kindP L s = kd := ⟨_, rfl⟩
  have e0 : rowF L ex s = rowEnd L kd l s1 := by rw [rowF_eq, hP, hkd]
  rw [e0]
  have hpl := h.blk.lt
  have HKD := Lib.hid (fun w' (f : Fr Nil w w') => pkind_any (h.fr f))
  rw [hkd] at HKD
  have HP := Lib.hid (And.intro h (And.intro hP (And.intro hgo hex)))
  obtain ⟨T, hT⟩ : ∃ T, w.heap.size = T := ⟨_, rfl⟩
  rw [hT] at hpl ⊢
  have hne : T ≠ pb := by omega
  clear h hP e0 hkd hgo hex
  go_enter Try.func76, Try.ntmps76
  go_wp2_with fail
  refine (HKD.out _ (by (repeat (first | (with_reducible exact Fr.refl _ _) | (with_reducible assumption) | (with_reducible exact Fr.of_nil (by assumption)) | (with_reducible refine Fr.drew ?_) | (with_reducible refine Fr.drewN ?_ _) | (with_reducible refine Fr.alloc ?_ _) | (with_reducible refine Fr.set ?_ _ _ (by first | (intros; omega) | (simp; done) | (simp; omega))) | (with_reducible refine Fr.via ?_ (by assumption)) | (with_reducible refine Fr.comp ?_ (by assumption)))))).mono ?_
  rintro e w1 ⟨rfl, f1⟩
  have bE1 : Blk w1 T #[.int .i64 0, .string ⟨#[]⟩, .bool false, .int .u64 0, .slice none 0 0, .slice none 0 0, .slice none 0 0, .slice none 0 0] 32 := by
    have h := f1.new
    rw [hT] at h
    exact h
  have F1 : Fr Nil w w1 := Fr.trans (S := Nil) (by (repeat (first | (with_reducible exact Fr.refl _ _) | (with_reducible assumption) | (with_reducible exact Fr.of_nil (by assumption)) | (with_reducible refine Fr.drew ?_) | (with_reducible refine Fr.drewN ?_ _) | (with_reducible refine Fr.alloc ?_ _) | (with_reducible refine Fr.set ?_ _ _ (by first | (intros; omega) | (simp; done) | (simp; omega))) | (with_reducible refine Fr.via ?_ (by assumption)) | (with_reducible refine Fr.comp ?_ (by assumption))))) f1 (fun _ _ q => q)
  have h1 := HP.out.1.fr F1
  have hT1 := bE1.lt
  clear f1 HKD
  go_wp2_with fail
  refine (patoms_any h1 hd HP.out.2.2.1 HP.out.2.2.2).mono ?_
  rw [HP.out.2.1]
  rintro e w2 ⟨v, rfl, hv, h2, f2⟩
  have hv : RowsAt EAt 8 32 _ w2 v l := hv
  have h2 : PAt w2 pb vT L s1 := h2
  have F2 : Fr (fun b => b = pb) w w2 := (Fr.of_nil F1).comp f2
  have bE2 := f2.blk bE1 hne
  obtain ⟨av, cv, rfl⟩ := hv.shape
  obtain ⟨cs, hrow, hcs⟩ := hv.row lawE
  have hrow := hrow.mono (Y := fun b => b < T + 1) (by decide) (fun b _ q => by omega)
  have hcs : ∀ i (hi : i < l.length), EAt (fun b => b < T + 1) w2 (cs i) l[i] := fun i hi => (hcs i hi).mono (fun b _ q => by omega)
  have Ec := bE2.cell
  have Ef := bE2.free
  have El := bE2.lt
  have H2 := Lib.hid (And.intro h2 (And.intro F2 (And.intro bE2 (And.intro hrow hcs))))
  have fin : Hid (∀ wf, Fr (fun b => b = T) w2 wf → Fr (fun b => b = pb) w wf ∧ PAt wf pb vT L s1 ∧ RowC (fun b => b < T + 1) wf (.slice av l.length cv) l.length 8 cs ∧ ∀ i (hi : i < l.length), EAt (fun b => b < T + 1) wf (cs i) l[i]) := fun wf g => by
    have FF : Fr (fun b => b = pb) w wf := F2.trans g (fun b hb q => by have q' : b = T := q; omega)
    exact ⟨FF, HP.out.1.keep FF h2 g (fun q => hne q.symm), hrow.fr g (fun b q => by have q' : b = T := q; omega), fun i hi => (hcs i hi).fr g (fun b q => by have q' : b = T := q; omega)⟩
  clear hv h2 f2 bE2 bE1 h1 F1 F2 hT1 hcs
  rcases l with _ | ⟨x, _ | ⟨y, r⟩⟩
  · simp only [List.length_nil]
    clear hrow fin
    go_wp2_with fail
    refine (pfault_any 3 H2.out.1).mono ?_
    rintro e w3 ⟨rfl, h3, f3⟩
    have bE3 := f3.blk H2.out.2.2.1 hne
    have F3 := H2.out.2.1.comp f3
    have H3 := Lib.hid (And.intro h3 F3)
    clear Ec Ef El
    have Ec := bE3.cell
    have Ef := bE3.free
    have El := bE3.lt
    have fin : Hid (∀ wf, Fr (fun b => b = T) w3 wf → ∃ v', Ending.returned (.agg #[.int .i64 0, .string ⟨#[]⟩, .bool false, .int .u64 0, .slice none 0 0, .slice none 0 0, .slice none 0 0, .slice none 0 0]) = .returned v' ∧ EVal (fun b => b < T) wf v' zeroE ∧ PAt wf pb vT L (faultF L 3 s1) ∧ Fr (fun b => b = pb) w wf) := fun wf g => by
      have FF : Fr (fun b => b = pb) w wf := F3.trans g (fun b hb q => by have q' : b = T := q; omega)
      exact ⟨_, rfl, ⟨_, rfl, EAt.zero⟩, HP.out.1.keep FF h3 g (fun q => hne q.symm), FF⟩
    clear bE3 F3 h3 f3
    go_wp2
    (try simp only [Exit.inBlock, Exit.then])
    refine bodyPost_ret (v := .agg #[.int .i64 0, .string ⟨#[]⟩, .bool false, .int .u64 0, .slice none 0 0, .slice none 0 0, .slice none 0 0, .slice none 0 0]) (by simp [results, Try.results76, go_sem, *]) rfl ?_
    exact fin.out _ (by (repeat (first | (with_reducible exact Fr.refl _ _) | (with_reducible assumption) | (with_reducible exact Fr.of_nil (by assumption)) | (with_reducible refine Fr.drew ?_) | (with_reducible refine Fr.drewN ?_ _) | (with_reducible refine Fr.alloc ?_ _) | (with_reducible refine Fr.set ?_ _ _ (by first | (intro _; exact rfl) | (intro _; exact .inl rfl) | (intro _; exact .inr rfl) | (intro q; exact absurd q (Nat.lt_irrefl _)) | (intro q; simp at q; omega))) | (with_reducible refine Fr.via ?_ (by assumption)) | (with_reducible refine Fr.comp ?_ (by assumption)))))
  · have i1 : ¬ (([x] : List TE).length : Int) = 0 := by simp
    simp only [List.length_cons, List.length_nil, Nat.zero_add] at hrow ⊢
    obtain ⟨b0, off0, rfl, hb0, hc0⟩ := RowC.at hrow (i := 0) (by simp)
    have hE0 := H2.out.2.2.2.2 0 (by simp)
    obtain ⟨k, nm, fl, bi, a0, n0, c0, a1, n1, c1, a2, n2, c2, a3, n3, c3, hcs0⟩ := hE0.form
    rw [hcs0] at hc0 hE0
    have q0 := hc0 0 _ rfl
    have q1 := hc0 1 _ rfl
    have q2 := hc0 2 _ rfl
    have q3 := hc0 3 _ rfl
    have q4 := hc0 4 _ rfl
    have q5 := hc0 5 _ rfl
    have q6 := hc0 6 _ rfl
    have q7 := hc0 7 _ rfl
    simp at q0 q1 q2 q3 q4 q5 q6 q7
    have hbl := World.block_lt_of_cell? _ _ q0
    have finR : Hid (∀ wf, Fr (fun b => b = T) w2 wf → ∃ v', Ending.returned (.agg (eC k nm fl bi a0 n0 c0 a1 n1 c1 a2 n2 c2 a3 n3 c3).toArray) = .returned v' ∧ EVal (fun b => b < T) wf v' x ∧ PAt wf pb vT L s1 ∧ Fr (fun b => b = pb) w wf) := fun wf g => by
      obtain ⟨r1, r2, r3, r4⟩ := fin.out wf g
      have h := r4 0 (by simp)
      rw [hcs0] at h
      exact ⟨_, rfl, ⟨_, rfl, h.mono (fun b _ q => by omega)⟩, r2, r1⟩
    clear hrow hc0 hE0 hcs0 fin hb0
    unfold eC at finR
    go_wp2
    (try simp only [Exit.inBlock, Exit.then])
    refine bodyPost_ret (v := .agg (eC k nm fl bi a0 n0 c0 a1 n1 c1 a2 n2 c2 a3 n3 c3).toArray) (by simp [results, Try.results76, go_sem, eC, *]) rfl ?_
    exact finR.out _ (by (repeat (first | (with_reducible exact Fr.refl _ _) | (with_reducible assumption) | (with_reducible exact Fr.of_nil (by assumption)) | (with_reducible refine Fr.drew ?_) | (with_reducible refine Fr.drewN ?_ _) | (with_reducible refine Fr.alloc ?_ _) | (with_reducible refine Fr.set ?_ _ _ (by first | (intro _; exact rfl) | (intro _; exact .inl rfl) | (intro _; exact .inr rfl) | (intro q; exact absurd q (Nat.lt_irrefl _)) | (intro q; simp at q; omega))) | (with_reducible refine Fr.via ?_ (by assumption)) | (with_reducible refine Fr.comp ?_ (by assumption)))))
  · obtain ⟨m, hm⟩ : ∃ m, (x :: y :: r).length = m + 1 := ⟨(y :: r).length, rfl⟩
    have hm1 : (y :: r).length = m := by simpa using hm
    have hmp : 1 ≤ m := by rw [← hm1]; simp
    have hcv : m + 1 ≤ cv := by
      obtain ⟨_, _, e, q1, _⟩ := hrow
      cases e
      rw [hm] at q1
      exact q1
    obtain ⟨b0, off0, rfl, hb0, hc0⟩ := RowC.at hrow (i := 0) (by simp)
    have hE0 := H2.out.2.2.2.2 0 (by simp)
    obtain ⟨k, nm, fl, bi, a0, n0, c0, a1, n1, c1, a2, n2, c2, a3, n3, c3, hcs0⟩ := hE0.form
    rw [hcs0] at hc0 hE0
    have q0 := hc0 0 _ rfl
    have q1 := hc0 1 _ rfl
    have q2 := hc0 2 _ rfl
    have q3 := hc0 3 _ rfl
    have q4 := hc0 4 _ rfl
    have q5 := hc0 5 _ rfl
    have q6 := hc0 6 _ rfl
    have q7 := hc0 7 _ rfl
    simp at q0 q1 q2 q3 q4 q5 q6 q7
    have hbl := World.block_lt_of_cell? _ _ q0
    rw [hm] at hrow ⊢
    have HM := Lib.hid (And.intro hm (And.intro hm1 (And.intro hcs0 hrow)))
    have j1 : ¬ (((m + 1 : Nat) : Int) = 0) := by omega
    have j2 : ¬ (((m + 1 : Nat) : Int) = 1) := by omega
    have j3 : ((((m + 1 : Nat) : Int)) == 0) = false := by simpa using j1
    have j4 : ((((m + 1 : Nat) : Int)) == 1) = false := by simpa using j2
    have j3' : (((m : Int) + 1) == 0) = false := by simpa using j1
    have j4' : (((m : Int) + 1) == 1) = false := by simp; omega
    have j5 : (0 : Int) < ((m + 1 : Nat) : Int) := by omega
    have j6 : (1 : Int) ≤ ((m + 1 : Nat) : Int) := by omega
    have j7 : ((m + 1 : Nat) : Int) ≤ (cv : Int) := by omega
    have j8 : (1 : Int) ≤ (cv : Int) := by omega
    have j9 : ¬ cv = 1 := by omega
    by_cases hk : kd = 2 ∨ kd = 7
    · have e1 : rowEnd L kd (x :: y :: r) s1 = (x.withKids (y :: r), s1) := by
        show (if kd = 2 ∨ kd = 7 then _ else _) = _
        rw [if_pos hk]
      have finR : Hid (∀ wf, Fr (fun b => b = T) w2 wf → ∃ v', Ending.returned (.agg (eC k nm fl bi a0 n0 c0 (some ⟨b0, off0 + 8, none⟩) m (cv - 1) a2 n2 c2 a3 n3 c3).toArray) = .returned v' ∧ EVal (fun b => b < T) wf v' (rowEnd L kd (x :: y :: r) s1).1 ∧ PAt wf pb vT L (rowEnd L kd (x :: y :: r) s1).2 ∧ Fr (fun b => b = pb) w wf) := fun wf g => by
        obtain ⟨r1, r2, r3, r4⟩ := fin.out wf g
        rw [e1]
        have h := r4 0 (by simp)
        rw [HM.out.2.2.1] at h
        rw [HM.out.1] at r3
        have ht := RowC.tail r3 (some ⟨b0, off0 + 8, none⟩) (fun _ => rfl)
        refine ⟨_, rfl, ⟨_, rfl, (EAt.withKids h (kc := fun i => cs (i + 1)) (by rw [HM.out.2.1]; exact ht) (fun i hi => ?_)).mono (fun b _ q => by omega)⟩, r2, r1⟩
        exact r4 (i + 1) (by simp at hi ⊢; omega)
      clear hrow hc0 hE0 hcs0 fin hb0 hm hm1 e1
      rcases hk with rfl | rfl
      · skip
        go_wp2
        (try simp only [Exit.inBlock, Exit.then])
        refine bodyPost_ret (v := .agg (eC k nm fl bi a0 n0 c0 (some ⟨b0, off0 + 8, none⟩) m (cv - 1) a2 n2 c2 a3 n3 c3).toArray) (by simp [results, Try.results76, go_sem, eC, *]) rfl ?_
        exact finR.out _ (by (repeat (first | (with_reducible exact Fr.refl _ _) | (with_reducible assumption) | (with_reducible exact Fr.of_nil (by assumption)) | (with_reducible refine Fr.drew ?_) | (with_reducible refine Fr.drewN ?_ _) | (with_reducible refine Fr.alloc ?_ _) | (with_reducible refine Fr.set ?_ _ _ (by first | (intro _; exact rfl) | (intro _; exact .inl rfl) | (intro _; exact .inr rfl) | (intro q; exact absurd q (Nat.lt_irrefl _)) | (intro q; simp at q; omega))) | (with_reducible refine Fr.via ?_ (by assumption)) | (with_reducible refine Fr.comp ?_ (by assumption)))))
      · skip
        go_wp2
        (try simp only [Exit.inBlock, Exit.then])
        refine bodyPost_ret (v := .agg (eC k nm fl bi a0 n0 c0 (some ⟨b0, off0 + 8, none⟩) m (cv - 1) a2 n2 c2 a3 n3 c3).toArray) (by simp [results, Try.results76, go_sem, eC, *]) rfl ?_
        exact finR.out _ (by (repeat (first | (with_reducible exact Fr.refl _ _) | (with_reducible assumption) | (with_reducible exact Fr.of_nil (by assumption)) | (with_reducible refine Fr.drew ?_) | (with_reducible refine Fr.drewN ?_ _) | (with_reducible refine Fr.alloc ?_ _) | (with_reducible refine Fr.set ?_ _ _ (by first | (intro _; exact rfl) | (intro _; exact .inl rfl) | (intro _; exact .inr rfl) | (intro q; exact absurd q (Nat.lt_irrefl _)) | (intro q; simp at q; omega))) | (with_reducible refine Fr.via ?_ (by assumption)) | (with_reducible refine Fr.comp ?_ (by assumption)))))
    · have e1 : rowEnd L kd (x :: y :: r) s1 = (.mk 4 [] false 0 [] (x :: y :: r) [] [], s1) := by
        show (if kd = 2 ∨ kd = 7 then _ else _) = _
        rw [if_neg hk]
      have finR : Hid (∀ wf, Fr (fun b => b = T) w2 wf → ∃ v', Ending.returned (.agg #[.int .i64 4, .string ⟨#[]⟩, .bool false, .int .u64 0, .slice none 0 0, .slice (some ⟨b0, off0, none⟩) (m + 1) cv, .slice none 0 0, .slice none 0 0]) = .returned v' ∧ EVal (fun b => b < T) wf v' (rowEnd L kd (x :: y :: r) s1).1 ∧ PAt wf pb vT L (rowEnd L kd (x :: y :: r) s1).2 ∧ Fr (fun b => b = pb) w wf) := fun wf g => by
        obtain ⟨r1, r2, r3, r4⟩ := fin.out wf g
        rw [e1]
        rw [HM.out.1] at r3
        refine ⟨_, rfl, ⟨_, rfl, (EAt.app 4 [] (kc := cs) (by rw [HM.out.1]; exact r3) (fun i hi => r4 i hi)).mono (fun b _ q => by omega)⟩, r2, r1⟩
      have d1 : ¬ kd = 2 := fun q => hk (.inl q)
      have d2 : ¬ kd = 7 := fun q => hk (.inr q)
      have d3 : (kd == 2) = false := by simpa using d1
      have d4 : (kd == 7) = false := by simpa using d2
      clear hrow hc0 hE0 hcs0 fin hb0 hm hm1 e1 hk
      go_wp2
      (try simp only [Exit.inBlock, Exit.then])
      refine bodyPost_ret (v := .agg #[.int .i64 4, .string ⟨#[]⟩, .bool false, .int .u64 0, .slice none 0 0, .slice (some ⟨b0, off0, none⟩) (m + 1) cv, .slice none 0 0, .slice none 0 0]) (by simp [results, Try.results76, go_sem, eC, *]) rfl ?_
      exact finR.out _ (by (repeat (first | (with_reducible exact Fr.refl _ _) | (with_reducible assumption) | (with_reducible exact Fr.of_nil (by assumption)) | (with_reducible refine Fr.drew ?_) | (with_reducible refine Fr.drewN ?_ _) | (with_reducible refine Fr.alloc ?_ _) | (with_reducible refine Fr.set ?_ _ _ (by first | (intro _; exact rfl) | (intro _; exact .inl rfl) | (intro _; exact .inr rfl) | (intro q; exact absurd q (Nat.lt_irrefl _)) | (intro q; simp at q; omega))) | (with_reducible refine Fr.via ?_ (by assumption)) | (with_reducible refine Fr.comp ?_ (by assumption)))))
end
end Go.Proofs.Ythpenpgcacikaaa
