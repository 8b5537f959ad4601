/-
  A range over names that a walk tells (layer 12): one law for a body that always goes on; the iterator; what Free tells. No conditions.
  What Free and Body tell (layer 12). No conditions.
-/
import Derived.Test.YthpenpgcacikaaaVar8
namespace Go.Proofs.Ythpenpgcacikaaa
set_option linter.unusedSimpArgs false
set_option linter.unusedVariables false
open Go.RowKit Go.Shelf
attribute [local go_sem] Oper.semAt_some

theorem fr_put {S : Nat → Prop} {w w1 : World} (h : Fr S w w1) (l : Nat) (o : Obj) (hl : l < w.heap.size → S l) : Fr S w (w1.putObj l o) :=
  ⟨h.os, h.tape, h.output, by rw [World.putObj_size]; exact h.size, fun k hk hn => by
    rw [World.putObj_heap_other (by rintro rfl; exact hn (hl hk))]
    exact h.block k hk hn⟩
/-- What the iterator owes to a body that goes on at each of xs: it turns none of the body's blocks, nor what lay there before. B: where the body's blocks begin. -/
def WalksN (P : Program) (gf : Nat) (lb : Array Value) (N B0 : Nat) (xs : List (List UInt8)) (w0 : World) : Prop :=
  ∀ (l : Nat) (J : List (List UInt8) → World → Prop) (O : World → Nat → Prop) (W : World), Fr Nil w0 W → (∀ pre A k, J pre A → O A k → B0 ≤ k ∧ k < A.heap.size) →
    (∀ pre A B, J pre A → Fr (fun k => ¬ O A k ∧ W.heap.size ≤ k) A B → J pre B ∧ ∀ k, O B k → O A k) →
    (∀ pre x A, J pre A → pre.length < N → YieldAt Fence.wide 5 P l #[.string ⟨x.toArray⟩] A fun e W' => e = .returned (.bool true) ∧ J (pre ++ [x]) W' ∧ Fr (O A) A W' ∧ ∀ k, O W' k → O A k ∨ A.heap.size ≤ k) →
    J [] W → CallsIn Fence.wide 6 P gf (#[.func (.yield l) #[] #[]] ++ lb) W fun e W' => (∃ v, e = .returned v) ∧ J xs W'
theorem wp_rangeN {P : Program} {g : Operand} {ps : Array Tmp} {assign body : Code} {Q : Exit → Act → World → Prop} {a : Act} {w : World} {gf : Nat} {lb : Array Value} {N B0 : Nat} {xs : List (List UInt8)}
    (hg : a.eval g = .func (.func gf) #[] lb) (eg : ∀ args w, (callFunc gf args).run P w = .ok (.enter gf args) w) (hps : ps.size = 1) (hB0 : B0 ≤ w.heap.size)
    (hiter : WalksN P gf lb N B0 xs w) (I : List (List UInt8) → World → Prop) (O : World → Nat → Prop)
    (hlt : ∀ pre A k, I pre A → O A k → B0 ≤ k ∧ k < A.heap.size ∧ k ≠ w.heap.size ∧ k ≠ w.heap.size + 1)
    (hI : ∀ pre A B, I pre A → Fr (fun k => ¬ O A k ∧ w.heap.size ≤ k) A B → I pre B ∧ ∀ k, O B k → O A k) (h0 : I [] w) (a₁ : List UInt8 → Act)
    (hassign : ∀ (l : Nat) (x : List UInt8) (W : World) (K : Act → World → Prop), K (a₁ x) W → assign.wpIn (Fence.wide.inRound l) 5 P (Exit.then K (fun _ _ _ => False)) { tmps := (ps.zip #[.string ⟨x.toArray⟩]).foldl (fun t (p, v) => t.setIfInBounds p v) a.tmps, defers := [] } W)
    (hbody : ∀ (l : Nat) (pre : List (List UInt8)) (x : List UInt8) (W : World), pre.length < N → I pre W → w.heap.size + 2 ≤ W.heap.size →
      body.wpIn (Fence.wide.inRound l) 5 P (fun e _ W' => e = .normal ∧ I (pre ++ [x]) W' ∧ Fr (O W) W W' ∧ ∀ k, O W' k → O W k ∨ W.heap.size ≤ k) (a₁ x) W)
    (hdone : ∀ (W : World), I xs W → w.heap.size + 2 ≤ W.heap.size → W.heap[w.heap.size]? = some (.deferred (some [])) → Q .normal { a with defers := { target := .collected w.heap.size, args := #[] } :: a.defers } W) :
    (Code.rangeFunc g ps assign body).wp P Q a w := by
  refine (wpIn_wide (n := 7)).1 (wpIn_rangeFunc fun fn hfn => ?_)
  obtain ⟨D, hD⟩ : ∃ D, w.heap.size = D := ⟨_, rfl⟩
  rw [hD] at hI hbody hdone hlt hB0
  let lp : LoopState → Loop := fun st => { state := st, pending := none, fn, tmps := a.tmps, params := ps, assign, body, defers := D }
  have hsz : (w.alloc (.deferred (some []))).heap.size = D + 1 := by rw [World.size_alloc, hD]
  obtain ⟨W1, hW1⟩ : ∃ W1, (w.alloc (.deferred (some []))).alloc (.loop (lp .ready)) = W1 := ⟨_, rfl⟩
  have f1 : Fr Nil w W1 := by rw [← hW1]; exact ((Fr.refl _ _).alloc _).alloc _
  have s1 : W1.heap.size = D + 2 := by rw [← hW1, World.size_alloc, hsz]
  have L1 : W1.heap[D + 1]? = some (.loop (lp .ready)) := by rw [← hW1, ← hsz]; exact World.alloc_heap_new _ _
  have K1 : W1.heap[D]? = some (.deferred (some [])) := by
    rw [← hW1, Below.heap_alloc _ _ _ (by rw [hsz]; omega), ← hD]
    exact World.alloc_heap_new _ _
  have hent := run_enterLoop_outer (P := P) (w := w) fn a.tmps ps assign body
  rw [hD] at hent
  refine ⟨D + 1, _, W1, { target := .fn (.func gf) lb, args := #[.func (.yield (D + 1)) #[] #[]] }, W1, gf, #[.func (.yield (D + 1)) #[] #[]] ++ lb, W1, by rw [← hW1]; exact hent, by simp only [resolve, hg]; simp [go_sem], fun f' hf' => trivial, by simp [invoke, go_sem, eg], fun _ => by omega, ?_⟩
  let J : List (List UInt8) → World → Prop := fun pre W => I pre W ∧ W.heap[D + 1]? = some (.loop (lp .ready)) ∧ W.heap[D]? = some (.deferred (some []))
  let O' : World → Nat → Prop := fun W k => O W k ∨ k = D + 1
  -- a turn of the loop's own record
  have turn : ∀ pre A B, I pre A → Fr (fun k => k = D + 1) A B → I pre B ∧ ∀ k, O B k → O A k := fun pre A B hi hf =>
    hI pre A B hi (hf.mono (fun k _ q => by
      subst q
      exact ⟨fun z => (hlt _ _ _ hi z).2.2.2 rfl, by omega⟩))
  refine (hiter (D + 1) J O' W1 f1 (fun pre A k hJ hO => ?_) (fun pre A B hJ hf => ?_) (fun pre x W hJ hlen => ?_) ⟨(hI _ _ _ h0 (f1.mono (fun _ _ q => q.elim))).1, L1, K1⟩).mono ?_
  · rcases hO with hO | rfl
    · exact ⟨(hlt _ _ _ hJ.1 hO).1, (hlt _ _ _ hJ.1 hO).2.1⟩
    · exact ⟨by omega, (Array.getElem?_eq_some_iff.1 hJ.2.1).1⟩
  · rw [s1] at hf
    have h1 := hI pre A B hJ.1 (hf.mono (fun k _ q => ⟨fun z => q.1 (.inl z), by omega⟩))
    exact ⟨⟨h1.1, (hf.block _ (Array.getElem?_eq_some_iff.1 hJ.2.1).1 (fun q => by omega)).trans hJ.2.1, (hf.block _ (Array.getElem?_eq_some_iff.1 hJ.2.2).1 (fun q => by omega)).trans hJ.2.2⟩, fun k q => q.imp (h1.2 k) id⟩
  · obtain ⟨hi, hl, hk⟩ := hJ
    have hltD := (Array.getElem?_eq_some_iff.1 hl).1
    refine ⟨fn, _, assign, body, run_yield hl (by simp [lp, hps]), roundIn_of_wpIn hfn (hassign _ x W _ ⟨_, run_beginRound hl rfl, ?_⟩)⟩
    have hl2 : (W.putObj (D + 1) (.loop (lp .busy))).heap[D + 1]? = some (.loop (lp .busy)) := World.putObj_heap_same hltD
    have fb : Fr (fun k => k = D + 1) W (W.putObj (D + 1) (.loop (lp .busy))) := fr_put (Fr.refl _ _) _ _ (fun _ => rfl)
    have t1 := turn _ _ _ hi fb
    refine wpIn_mono (hbody (D + 1) pre x _ hlen t1.1 (by rw [World.putObj_size]; omega)) ?_
    rintro e a3 W3 ⟨rfl, hi3, f3, n3⟩
    have hl3 : W3.heap[D + 1]? = some (.loop (lp .busy)) := (f3.block _ (by rw [World.putObj_size]; exact hltD) (fun q => (hlt _ _ _ t1.1 q).2.2.2 rfl)).trans hl2
    have hk3 : W3.heap[D]? = some (.deferred (some [])) := (f3.block _ (by rw [World.putObj_size]; omega) (fun q => (hlt _ _ _ t1.1 q).2.2.1 rfl)).trans ((World.putObj_heap_other (by omega)).trans hk)
    have hlt3 := (Array.getElem?_eq_some_iff.1 hl3).1
    have fe : Fr (fun k => k = D + 1) W3 (W3.putObj (D + 1) (.loop (lp .ready))) := fr_put (Fr.refl _ _) _ _ (fun _ => rfl)
    have t3 := turn _ _ _ hi3 fe
    refine ⟨_, _, run_endRound none hl3, rfl, ⟨t3.1, World.putObj_heap_same hlt3, (World.putObj_heap_other (by omega)).trans hk3⟩, ?_, ?_⟩
    · exact ((fb.mono (fun k _ q => .inr q)).trans f3 (fun k _ q => .inl (t1.2 k q))).trans fe (fun k _ q => .inr q)
    · intro k q
      rcases q with q | q
      · rcases n3 k (t3.2 k q) with z | z
        · exact .inl (.inl (t1.2 k z))
        · rw [World.putObj_size] at z
          exact .inr z
      · exact .inl (.inr q)
  · rintro e W2 ⟨⟨v, rfl⟩, hi, hl, hk⟩
    have fe : Fr (fun k => k = D + 1) W2 (W2.putObj (D + 1) (.loop (lp .exhausted))) := fr_put (Fr.refl _ _) _ _ (fun _ => rfl)
    have hltD := (Array.getElem?_eq_some_iff.1 hl).1
    exact ⟨none, _, run_endLoop hl (by simp [lp]), hdone _ (turn _ _ _ hi fe).1 (by rw [World.putObj_size]; omega) ((World.putObj_heap_other (by omega)).trans hk)⟩
set_option maxRecDepth 100000 in
set_option maxHeartbeats 2000000 in
/-- The iterator over the names that are free. -/
theorem names1_walks {X : Nat → Prop} {w : World} {eb B0 : Nat} {cs : List Value} {e : TE} (hb : Blk w eb cs.toArray 32) (hE : EAt (fun k => B0 ≤ k) w cs e) (ho : okE e) (hwt : wtE e ≤ 400000) (hB0 : B0 ≤ w.heap.size) :
    WalksN Try.prog 31 #[.pointer (some ⟨eb, 0, none⟩)] (wtE e) B0 (occE e []) w := by
  intro l J O W hW hlt hfr hyl h0
  have hmm := @run_makeMap Try.prog
  have hfo := hE.formE
  obtain ⟨k, nm, fl, bi, a0, n0, c0, a1, n1, c1, a2, n2, c2, a3, n3, c3, rfl⟩ := hfo
  have hbW := hW.blk hb (fun q => q)
  have e0 := hbW.cell 0
  have e1 := hbW.cell 1
  have e2 := hbW.cell 2
  have e3 := hbW.cell 3
  have e4 := hbW.cell 4
  have e5 := hbW.cell 5
  have e6 := hbW.cell 6
  have e7 := hbW.cell 7
  simp at e0 e1 e2 e3 e4 e5 e6 e7
  have el := hbW.lt
  have HH := Lib.hid (And.intro hlt (And.intro hfr (And.intro hyl (And.intro h0 (And.intro (hE.fr hW (fun _ q => q.elim)) (And.intro ho hwt))))))
  have hBW : B0 ≤ W.heap.size := Nat.le_trans hB0 hW.size
  clear hlt hfr hyl h0 hb hE ho hbW hwt
  refine callsIn_wide.2 ?_
  simp only [List.push_toArray, List.append_toArray, List.nil_append, List.cons_append]
  go_enter Try.func31, Try.ntmps31
  go_wp2_with fail
  obtain ⟨mb, hmb⟩ : ∃ mb, W.heap.size = mb := ⟨_, rfl⟩
  rw [hmb]
  obtain ⟨W1, hW1⟩ : ∃ W1, (W.alloc (.map #[] 0)).alloc (.cells #[.map (some mb), .func (.yield l) #[] #[]] 73) = W1 := ⟨_, rfl⟩
  rw [hW1]
  have f1 : Fr Nil W W1 := by rw [← hW1]; (repeat (first | (with_reducible exact Fr.refl _ _) | (with_reducible assumption) | (with_reducible exact Fr.of_nil (by assumption)) | (with_reducible refine Fr.drew ?_) | (with_reducible refine Fr.drewN ?_ _) | (with_reducible refine Fr.alloc ?_ _) | (with_reducible refine Fr.set ?_ _ _ (by first | (intros; omega) | (simp; done) | (simp; omega))) | (with_reducible refine Fr.via ?_ (by assumption)) | (with_reducible refine Fr.comp ?_ (by assumption))))
  have s1 : W1.heap.size = mb + 2 := by rw [← hW1]; simp [hmb]
  have hm1 : SMap W1 mb 0 (fun x => (List.count x ([] : List (List UInt8)) : Int)) := by
    rw [← hW1]
    have h := (SMap.made W).fr ((Fr.refl Nil _).alloc (.cells #[.map (some mb), .func (.yield l) #[] #[]] 73)) (fun q => q)
    rw [hmb] at h
    exact h.congr (fun x _ => by simp)
  have hb1 : Blk W1 (mb + 1) #[.map (some mb), .func (.yield l) #[] #[]] 73 := by
    have := Blk.new (W.alloc (.map #[] 0)) #[.map (some mb), .func (.yield l) #[] #[]] 73
    rwa [hW1, World.size_alloc, hmb] at this
  have hj1 := HH.out.2.1 [] W W1 HH.out.2.2.2.1 (f1.mono (fun _ _ q => q.elim))
  have hno : ∀ k, O W1 k → k < mb := fun k q => by
    have := (HH.out.1 _ _ _ HH.out.2.2.2.1 (hj1.2 k q)).2
    omega
  clear hW1
  have hY : YL l mb (wtE e) (fun pre A => J pre A ∧ ¬ O A mb ∧ mb < A.heap.size) O := by
    refine ⟨fun pre A k hj hk => (HH.out.1 _ _ _ hj.1 hk).2, fun pre A B hj f => ?_, fun pre x A hj hl => ?_⟩
    · have h := HH.out.2.1 pre A B hj.1 (f.mono (fun k _ q => by subst q; exact ⟨hj.2.1, by omega⟩))
      exact ⟨⟨h.1, fun q => hj.2.1 (h.2 _ q), Nat.lt_of_lt_of_le hj.2.2 f.size⟩, h.2⟩
    · refine (HH.out.2.2.1 pre x A hj.1 hl).mono ?_
      rintro e W' ⟨h1, h2, h3, h4⟩
      exact ⟨h1, ⟨h2, fun q => (h4 _ q).elim hj.2.1 (fun z => by have := hj.2.2; omega), Nat.lt_of_lt_of_le hj.2.2 h3.size⟩, h3, h4⟩
  have hWK : WK l (mb + 1) mb (fun pre A => J pre A ∧ ¬ O A mb ∧ mb < A.heap.size) O W1 [] [] 0 :=
    ⟨⟨hj1.1, fun q => by have := hno _ q; omega, by omega⟩, hm1, hb1, fun q => by have := hno _ q; omega, by omega, fun q => by have := hno _ q; omega⟩
  have hE1 : EAt (XO mb O W1) W1 _ e := (HH.out.2.2.2.2.1.fr f1 (fun _ q => q.elim)).mono (fun b hb q => by
    rcases q with q | q
    · exact (HH.out.1 _ _ _ HH.out.2.2.2.1 (hj1.2 b q)).1
    · subst q; omega)
  refine (walk_all hY (szE e) e (Nat.le_refl _) W1 [] [] 0 _ hWK hE1 HH.out.2.2.2.2.2.1 (by simp) (by simp) (by have := HH.out.2.2.2.2.2.2; omega)).mono ?_
  rintro e w2 ⟨rfl, q1, q2⟩
  have H2 := Lib.hid q1.j.1
  clear q1 q2 hWK hE1 hY hm1 hb1 hj1 hno f1
  go_wp2
  go_end0
  exact ⟨⟨_, rfl⟩, H2.out⟩
/-- Each name once, where it first comes. -/
def uniq (l : List (List UInt8)) : List (List UInt8) := l.foldl (fun o x => if x ∈ o then o else o ++ [x]) []
theorem uniq_snoc (pre : List (List UInt8)) (x : List UInt8) : uniq (pre ++ [x]) = if x ∈ uniq pre then uniq pre else uniq pre ++ [x] := by
  unfold uniq
  rw [List.foldl_append]
  rfl
theorem uniq_len (pre : List (List UInt8)) : (uniq pre).length ≤ pre.length := by
  unfold uniq
  suffices h : ∀ (l acc : List (List UInt8)), (l.foldl (fun o x => if x ∈ o then o else o ++ [x]) acc).length ≤ acc.length + l.length by
    simpa using h pre []
  intro l
  induction l with
  | nil => intro acc; simp
  | cons x l ih =>
    intro acc
    simp only [List.foldl_cons, List.length_cons]
    split
    · have := ih acc; omega
    · have := ih (acc ++ [x]); simp at this; omega
end Go.Proofs.Ythpenpgcacikaaa

namespace Go.Proofs.Ythpenpgcacikaaa
set_option linter.unusedSimpArgs false
set_option linter.unusedVariables false
open Go.RowKit Go.Shelf
attribute [local go_sem] Oper.semAt_some

/-- 'append' of one element that was just built, in a round. -/
theorem wpListIn_push {F : Fence} {fd : Nat} {P : Program} {w : World} {ops : Array Oper} {rest : List Oper} {o : Oper} {a : Act} {Q : Exit → Act → World → Prop}
    (hg : o.guard = none) (s x : Operand) (t : TypeId) (hop : o.op = Op.call { callee := Callee.builtin Builtin.append, args := #[s, x], argTypes := #[t, t] })
    (base : Nat) (e : TypeId) (i : TypeInfo) (z : Value) (size bytes : Nat) (h1 : P.underlying t = some (.slice e)) (h2 : P.info? e = some i) (h3 : i.zero = some z) (h4 : i.size = size) (h5 : i.bytes = bytes) (h6 : z.cells.size = size) (h7 : 0 < size)
    (v : Value) (n : Nat) (xs : List Value) (hs : a.eval s = v) (hown : w.ownsRow base e size v n xs) (news : List Value) (hx : a.eval x = .slice (some ⟨w.heap.size, 0, none⟩) 1 1) (hl : news.length = size) (h1c : ∀ u ∈ news, u.oneCell' = true)
    (b1 : n + 1 ≤ maxLen) (b2 : (n + 1) * bytes ≤ 140737488355328) (hbase : base ≤ w.heap.size)
    (hK : ∀ v' w', w'.ownsRow base e size v' (n + 1) (xs ++ news) → Fr (fun k => v.ownBlock = some k) w w' → (∀ k, v'.ownBlock = some k → v.ownBlock = some k ∨ w.heap.size ≤ k) → wpListIn F fd P ops Q rest (a.put o.dst v') w') : wpListIn F fd P ops Q (o :: rest) a (w.alloc (.cells news.toArray e)) := by
  have fA : Fr Nil w (w.alloc (.cells news.toArray e)) := (Fr.refl _ _).alloc _
  have hb : Blk (w.alloc (.cells news.toArray e)) w.heap.size news.toArray e := Blk.new _ _ _
  refine wpListIn_plain hg fun K hK' => ?_
  obtain ⟨v', w', hrun, r1, r2, r4⟩ := run_append_src (P := P) (w.alloc (.cells news.toArray e)) base t o.type e i z size bytes h1 h2 h3 h4 h5 h6 h7 v n xs (owns_frS hown fA (fun _ _ q => q)) (some ⟨w.heap.size, 0, none⟩) 1 1 news (.inr ⟨_, rfl, by rw [hl]; omega, fun j u hj => by
    rw [add_head, hb.cell]
    simpa using hj⟩) h1c b1 b2 (Nat.le_trans hbase fA.size)
  unfold Oper.wpIn
  refine ⟨?_, ?_⟩
  · simp [Oper.about, hop, resolve, Target.leads, Sem.run_pure]
  · rw [Oper.semAt_plain F _ _ (by rw [hop]; intro c hc'; cases hc')]
    simp [execOp, hop, resolve, invoke, builtin, hs, hx, hrun, Result.andThen]
    refine hK' _ _ (hK v' w' r1 (Fr.grown (fA.of_nil) r2 (fun k q _ => q)) (fun k q => ?_))
    rcases r4 with r3 | r3
    · exact .inl (r3 ▸ q)
    · rw [r3] at q
      cases q
      exact .inr fA.size
theorem EAt.nocare {X : Nat → Prop} {w : World} {cs : List Value} {t : TE} (h : EAt X w cs t) : EAt (fun _ => False) w cs t := h.mono (fun _ _ q => q.elim)
theorem names_any (w : World) {cs : List Value} (hfo : FormE cs) :
    Calls Try.prog 18 #[.agg cs.toArray] w fun r w' => r = .returned (.func (.func 31) #[] #[.pointer (some ⟨w.heap.size, 0, none⟩)]) ∧ w' = w.alloc (.cells cs.toArray 32) := by
  obtain ⟨k, nm, fl, bi, a0, n0, c0, a1, n1, c1, a2, n2, c2, a3, n3, c3, rfl⟩ := hfo
  go_enter Try.func18, Try.ntmps18
  go_wp2
  go_ret
  exact ⟨rfl, rfl⟩
theorem owns_base {w : World} {b base size n : Nat} {t : TypeId} {v : Value} {xs : List Value} (h : w.ownsRow base t size v n xs) (hb : b ≤ base) : w.ownsRow b t size v n xs := by
  obtain ⟨h1, h2⟩ := h
  refine ⟨h1, ?_⟩
  rcases h2 with h2 | ⟨g, cap, cur, hv, hg, hh, r⟩
  · exact .inl h2
  · exact .inr ⟨g, cap, cur, hv, by omega, hh, r⟩
/-- What Free's own blocks hold, so many names having come. -/
def FreeI (w : World) (ob B : Nat) (pre : List (List UInt8)) (W : World) : Prop := ∃ v, Blk W ob #[v] 25 ∧ W.ownsRow B 9 1 v (uniq pre).length (strC (uniq pre)) ∧ Fr Nil w W
def FreeO (ob : Nat) (W : World) (k : Nat) : Prop := k = ob ∨ ∃ v, W.cell? ⟨ob, 0, none⟩ = some v ∧ v.ownBlock = some k
theorem Blk.one {W : World} {ob : Nat} {v : Value} {t : TypeId} (h : Blk W ob #[v] t) : W.cell? ⟨ob, 0, none⟩ = some v := by
  have := h.cell 0
  simpa using this
theorem FreeI.keep {w A B : World} {ob D : Nat} {pre : List (List UInt8)} (hw : w.heap.size ≤ D) (h : FreeI w ob (D + 2) pre A) (f : Fr (fun k => ¬ FreeO ob A k ∧ D ≤ k) A B) : FreeI w ob (D + 2) pre B ∧ ∀ k, FreeO ob B k → FreeO ob A k := by
  obtain ⟨v, h1, h2, h3⟩ := h
  have hb := f.blk h1 (fun q => q.1 (.inl rfl))
  refine ⟨⟨v, hb, owns_frS h2 f (fun k hk q => q.1 (.inr ⟨v, h1.one, hk⟩)), h3.trans f (fun k hk q => by omega)⟩, fun k q => ?_⟩
  rcases q with q | ⟨u, q1, q2⟩
  · exact .inl q
  · rw [hb.one] at q1
    cases q1
    exact .inr ⟨v, h1.one, q2⟩
set_option maxRecDepth 100000 in
set_option maxHeartbeats 2000000 in
theorem free_any {X : Nat → Prop} {w : World} {cs : List Value} {e : TE} (hE : EAt X w cs e) (ho : okE e) (hwt : wtE e ≤ 400000) :
    Calls Try.prog 10 #[.agg cs.toArray] w fun r w' => ∃ v, r = .returned v ∧ w'.ownsRow w.heap.size 9 1 v (uniq (occE e [])).length (strC (uniq (occE e []))) ∧ Fr Nil w w' := by
  obtain ⟨i0, hi, hz0, hz1, hz2⟩ := info_parts infoS
  have hfo := hE.formE
  have hE := hE.mono (Y := fun b => w.heap.size ≤ b) (fun b h1 h2 => by omega)
  obtain ⟨T, hT⟩ : ∃ T, w.heap.size = T := ⟨_, rfl⟩
  rw [hT] at hE ⊢
  obtain ⟨R, hR⟩ : ∃ R, uniq (occE e []) = R := ⟨_, rfl⟩
  rw [hR]
  have HH := Lib.hid (And.intro hE (And.intro ho (And.intro hwt (And.intro hT hR))))
  have HFO := Lib.hid hfo
  obtain ⟨k, nm, fl, bi, a0, n0, c0, a1, n1, c1, a2, n2, c2, a3, n3, c3, rfl⟩ := hfo
  clear hE ho hwt hR
  refine (callsIn_wide (n := 7)).1 (callsIn_of_wp_marks Try.func10 rfl trivial (wpIn_wide.2 ?_) rfl)
  simp only [Try.ntmps10, List.size_toArray, List.length_cons, List.length_nil, Nat.reduceAdd, Nat.reduceSub, Array.replicate_succ, Array.replicate_zero, List.push_toArray, List.append_toArray, List.nil_append, List.cons_append]
  go_wp2_with (go_at_call 18; refine (names_any _ HFO.out).mono ?_; rintro e w1 ⟨rfl, rfl⟩)
  obtain ⟨V, hV⟩ : ∃ V, ((w.alloc (.cells #[.int .i64 (k : Int), .string nm, .bool fl, .int .u64 (bi : Int), .slice a0 n0 c0, .slice a1 n1 c1, .slice a2 n2 c2, .slice a3 n3 c3] 32)).alloc (.cells #[.slice none 0 0] 25)).alloc (.cells #[.int .i64 (k : Int), .string nm, .bool fl, .int .u64 (bi : Int), .slice a0 n0 c0, .slice a1 n1 c1, .slice a2 n2 c2, .slice a3 n3 c3] 32) = V := ⟨_, rfl⟩
  rw [hV]
  have fV : Fr Nil w V := by rw [← hV]; (repeat (first | (with_reducible exact Fr.refl _ _) | (with_reducible assumption) | (with_reducible exact Fr.of_nil (by assumption)) | (with_reducible refine Fr.drew ?_) | (with_reducible refine Fr.drewN ?_ _) | (with_reducible refine Fr.alloc ?_ _) | (with_reducible refine Fr.set ?_ _ _ (by first | (intros; omega) | (simp; done) | (simp; omega))) | (with_reducible refine Fr.via ?_ (by assumption)) | (with_reducible refine Fr.comp ?_ (by assumption))))
  have bO : Blk V (T + 1) #[.slice none 0 0] 25 := by rw [← hV]; (unfold Blk; simp (disch := first | omega | (simp; done) | (simp; omega)) only [hp_drew, hp_drewN, hp_alloc, hp_other, hp_same, hp_new, upd_cells, Option.map_some])
  have bN : Blk V (T + 1 + 1) ([.int .i64 (k : Int), .string nm, .bool fl, .int .u64 (bi : Int), .slice a0 n0 c0, .slice a1 n1 c1, .slice a2 n2 c2, .slice a3 n3 c3] : List Value).toArray 32 := by rw [← hV]; (unfold Blk; simp (disch := first | omega | (simp; done) | (simp; omega)) only [hp_drew, hp_drewN, hp_alloc, hp_other, hp_same, hp_new, upd_cells, Option.map_some])
  have sV : V.heap.size = T + 3 := by rw [← hV]; simp [hT]
  have HV := Lib.hid (And.intro fV (And.intro bO bN))
  have HS := Lib.hid sV
  clear hV fV bO bN sV hE
  refine wp_rangeN (gf := 31) (lb := #[.pointer (some ⟨T + 1 + 1, 0, none⟩)]) (N := wtE e) (B0 := T) (xs := occE e []) rfl (enters_of Try.func31 (by kernel_rfl) rfl) rfl (by have := HS.out; omega) (names1_walks (X := X) HV.out.2.2 (HH.out.1.fr HV.out.1 (fun _ q => q.elim)) HH.out.2.1 HH.out.2.2.1 (by have := HS.out; omega)) (FreeI w (T + 1) (V.heap.size + 2)) (FreeO (T + 1)) (fun pre A k hi hk => ?hlt) (fun pre A B hi f => FreeI.keep (by have := HS.out; omega) hi f) ?h0
    (fun x => { tmps := #[.agg #[.int .i64 (k : Int), .string nm, .bool fl, .int .u64 (bi : Int), .slice a0 n0 c0, .slice a1 n1 c1, .slice a2 n2 c2, .slice a3 n3 c3], .pointer (some ⟨T, 0, none⟩), .slice none 0 0, .pointer (some ⟨T + 1, 0, none⟩), .string ⟨x.toArray⟩, .agg #[.int .i64 (k : Int), .string nm, .bool fl, .int .u64 (bi : Int), .slice a0 n0 c0, .slice a1 n1 c1, .slice a2 n2 c2, .slice a3 n3 c3], .func (.func 31) #[] #[.pointer (some ⟨T + 1 + 1, 0, none⟩)], .string ⟨x.toArray⟩, undef, undef, undef, undef, undef, undef, undef, undef, undef], defers := [] }) ?assign ?body ?done
  case hlt =>
    obtain ⟨v, h1, h2, h3⟩ := hi
    have hs := HS.out
    rcases hk with rfl | ⟨u, q1, q2⟩
    · have := h1.lt
      omega
    · rw [h1.one] at q1
      cases q1
      have := h2.lt k q2
      omega
  case h0 => exact ⟨_, HV.out.2.1, by simpa [uniq, strC] using World.ownsRow_nil _ _ _ _, HV.out.1⟩
  case assign =>
    intro l x W K hK
    gi_wp2
    exact hK
  case body =>
    intro l pre x W hlen hI hWs
    obtain ⟨v, b1, own, fw⟩ := hI
    have hrow : RowS (fun _ => False) W v (uniq pre) := RowS.of_own own (fun _ q => q.elim)
    have hul := uniq_len pre
    have hw4 := HH.out.2.2.1
    obtain ⟨U, hU⟩ : ∃ U, uniq pre = U := ⟨_, rfl⟩
    have hun := uniq_snoc pre x
    rw [hU] at hrow own hul hun
    obtain ⟨M, hM⟩ : ∃ M, U.length = M := ⟨_, rfl⟩
    rw [hM] at own hul
    obtain ⟨va, vc, rfl⟩ := owns_shape own
    have c0 := b1.one
    have cl := b1.lt
    have cf := b1.free
    have hM9 : M ≤ 400000 := by omega
    have HB := Lib.hid (And.intro b1 (And.intro own (And.intro fw hM)))
    have HC := contains_any x hrow
    by_cases hx : x ∈ U
    · rw [decide_eq_true hx] at HC
      rw [if_pos hx] at hun
      have HC := Lib.hid HC
      have HU := Lib.hid hun
      clear hrow hul hw4 hun hU b1 own fw hx
      gi_wp2_with (refine ⟨trivial, ?_⟩; gi_at_call 19; refine (CallsIn.inRound l (callsIn_wide.2 HC.out)).mono ?_; rintro e w2 ⟨rfl, f2⟩)
      have b2 := f2.blk HB.out.1 (fun q => q)
      refine ⟨⟨_, b2, ?_, HB.out.2.2.1.comp f2⟩, f2.of_nil, fun k q => ?_⟩
      · rw [HU.out, HB.out.2.2.2]
        exact owns_fr HB.out.2.1 f2
      · rcases q with q | ⟨u, q1, q2⟩
        · exact .inl (.inl q)
        · rw [b2.one] at q1
          cases q1
          exact .inl (.inr ⟨_, HB.out.1.one, q2⟩)
    · rw [decide_eq_false hx] at HC
      rw [if_neg hx] at hun
      have HC := Lib.hid HC
      have HU := Lib.hid hun
      clear hrow hul hw4 hun hU b1 own fw hx cl cf
      have HC0 := Lib.hid c0
      gi_wp2_with (first
        | (refine ⟨trivial, ?_⟩; gi_at_call 19; refine (CallsIn.inRound l (callsIn_wide.2 HC.out)).mono ?_; rintro e w2 ⟨rfl, f2⟩; have b2 := f2.blk HB.out.1 (fun q => q); have own2 := owns_fr HB.out.2.1 f2; have p0 := b2.one; have p1 := b2.lt; have p2 := b2.free; have H2 := Lib.hid (And.intro b2 (And.intro own2 f2)); clear b2 own2 f2 c0)
        | (gi_at_builtin; refine wpListIn_push rfl (.tmp 12) (.tmp 14) 25 rfl (V.heap.size + 2) 9 i0 (.string ⟨#[]⟩) 1 16 Try.underlying25 hi hz0 hz1 hz2 rfl (by decide) _ M (strC U) rfl H2.out.2.1 [.string ⟨x.toArray⟩] rfl rfl (by simp [Value.oneCell']) (by unfold maxLen; omega) (by omega) (by have := H2.out.2.2.size; omega) ?_; intro v' w3 hown3 f3 hk3; obtain ⟨g', cap', rfl⟩ := ownsRow_succ hown3; have b3 := f3.blk H2.out.1 (fun q => by have := (H2.out.2.1.lt _ q).1; have := HS.out; omega); clear p0 p1 p2; have p0 := b3.one; have p1 := b3.lt; have p2 := b3.free; have H3 := Lib.hid (And.intro b3 (And.intro hown3 (And.intro f3 hk3))); clear b3 hown3 f3 hk3))
      obtain ⟨Z, hZ⟩ : ∃ Z, w3.setCell ⟨T + 1, 0, none⟩ (.slice (some ⟨g', 0, none⟩) (M + 1) cap') = Z := ⟨_, rfl⟩
      rw [hZ]
      have fZ : Fr (fun k => k = T + 1) w3 Z := by rw [← hZ]; exact (Fr.refl _ _).set _ _ (fun _ => rfl)
      have bZ : Blk Z (T + 1) #[.slice (some ⟨g', 0, none⟩) (M + 1) cap'] 25 := by rw [← hZ]; exact H3.out.1.put rfl
      have hl3 := H3.out.2.1.lt
      have hl2 := H2.out.2.1.lt
      have hs := HS.out
      refine ⟨⟨_, bZ, ?_, ?_⟩, ?_, fun k q => ?_⟩
      · rw [HU.out, List.length_append, List.length_singleton, HB.out.2.2.2, strC_snoc]
        exact owns_frS H3.out.2.1 fZ (fun k q e => by have := (hl3 k q).1; omega)
      · exact ((HB.out.2.2.1.comp H2.out.2.2).trans H3.out.2.2.1 (fun k hk q => by have := (hl2 k q).1; omega)).trans fZ (fun k hk q => by omega)
      · exact ((H2.out.2.2.of_nil).trans H3.out.2.2.1 (fun k _ q => .inr ⟨_, HC0.out, q⟩)).trans fZ (fun k _ q => .inl q)
      · rcases q with q | ⟨u, q1, q2⟩
        · exact .inl (.inl q)
        · rw [bZ.one] at q1
          cases q1
          rcases H3.out.2.2.2 k q2 with z | z
          · exact .inl (.inr ⟨_, HC0.out, z⟩)
          · exact .inr (Nat.le_trans H2.out.2.2.size z)
  case done =>
    intro W hI hWs hK
    obtain ⟨v, b1, own, fw⟩ := hI
    rw [HH.out.2.2.2.2] at own
    obtain ⟨M, hM⟩ : ∃ M, R.length = M := ⟨_, rfl⟩
    rw [hM] at own
    obtain ⟨va, vc, rfl⟩ := owns_shape own
    have c0 := b1.one
    have cl := b1.lt
    have cf := b1.free
    have HB := Lib.hid (And.intro own (And.intro fw (And.intro hK hM)))
    have HW := Lib.hid hWs
    clear own fw hK b1 hWs hM
    go_wp2
    refine ⟨by simp, .inl ⟨_, _, rfl, run_takeDeferred HB.out.2.2.1, ?_⟩⟩
    have fY : Fr (fun k => k = V.heap.size) W (W.putObj V.heap.size (.deferred none)) := fr_put (Fr.refl _ _) _ _ (fun _ => rfl)
    have hs := HS.out
    have hl := HB.out.1.lt
    refine ⟨_, by simp [results, Try.results10, go_sem]; rfl, _, rfl, ?_, HB.out.2.1.trans fY (fun k hk q => by omega)⟩
    rw [HB.out.2.2.2]
    exact owns_base (owns_frS HB.out.1 fY (fun k q e => by have := (hl k q).1; omega)) (by omega)
end Go.Proofs.Ythpenpgcacikaaa
