/-
  Contracts of package extent: Give, New. No conditions but sizes that the package itself asks for.
-/
import Derived.Test.YtjcnbfiholcjkaaExt4
import Derived.Deep.RegionWith
namespace Go.Proofs.Ytjcnbfiholcjkaa
set_option linter.unusedSimpArgs false
set_option linter.unusedVariables false
open Go.RowKit Go.Shelf

theorem idxP_nn (p : Nat × Nat → Bool) (L : List (Nat × Nat)) : 0 ≤ idxP p L ↔ ∃ x ∈ L, p x = true := by
  unfold idxP
  cases h : L.findIdx? p with
  | none =>
    rw [List.findIdx?_eq_none_iff] at h
    exact ⟨fun q => by simp at q, fun ⟨x, hx, q⟩ => by rw [h x hx] at q; cases q⟩
  | some k =>
    rw [List.findIdx?_eq_some_iff_getElem] at h
    obtain ⟨hk, h1, _⟩ := h
    exact ⟨fun _ => ⟨_, List.getElem_mem hk, h1⟩, fun _ => by simp⟩
theorem meet_iff {lo hi a n : Nat} {L : List (Nat × Nat)} (hc : CanL lo hi L) (hn : 1 ≤ n) : (∃ x ∈ L, meetB a n x = true) ↔ ∃ q, a ≤ q ∧ q < a + n ∧ hasL L q := by
  constructor
  · rintro ⟨x, hx, h⟩
    have m := can_mem hc x hx
    simp [meetB] at h
    exact ⟨max a x.1, by omega, by omega, x, hx, by omega, by omega⟩
  · rintro ⟨q, h1, h2, x, hx, h3, h4⟩
    exact ⟨x, hx, by simp [meetB]; omega⟩
theorem idx_place (a : Nat) (L : List (Nat × Nat)) : (idxP (fun x : Nat × Nat => decide ((a : Int) < (x.1 : Int))) L = -1 ∧ placeL a L = L.length) ∨ (idxP (fun x : Nat × Nat => decide ((a : Int) < (x.1 : Int))) L = (placeL a L : Int)) := by
  have e : (fun x : Nat × Nat => decide ((a : Int) < (x.1 : Int))) = fun x => decide (a < x.1) := by
    funext x
    exact decide_eq_decide.2 (by omega)
  rw [e]
  unfold idxP placeL
  cases h : L.findIdx? (fun x => decide (a < x.1)) with
  | none => exact .inl ⟨rfl, rfl⟩
  | some k => exact .inr rfl
theorem joinI_small {L : List (Nat × Nat)} (k : Int) (h : ∀ x ∈ L, x.1 + x.2 ≤ 1000000) : ∀ x ∈ joinI k L, x.1 + x.2 ≤ 1000000 := by
  unfold joinI
  split
  · exact h
  · exact joinL_small _ h
section
variable (br f p : Nat) (v : Value) (L : List (Nat × Nat)) (w : World)
theorem give_out (h : RoomAt w br f p v L) (a n : Int) (ha : IntKind.i64.wrap a = a) (hw : withinB f p a n = false) : Calls Try.prog 18 #[.pointer (some ⟨br, 0, none⟩), .int .i64 a, .int .i64 n] w fun e w' => e = .returned (.int .i64 1) ∧ Fr Nil w w' := by
  have HW := Lib.hid hw
  have HA := Lib.hid ha
  have H := Lib.hid h
  clear hw ha h
  go_enter Try.func18, Try.ntmps18
  go_wp2_with fail
  refine (within_any br f p v L _ (H.out.fr (S := Nil) (by (repeat (first | (with_reducible exact Fr.refl _ _) | (with_reducible assumption) | (with_reducible exact Fr.of_nil (by assumption)) | (with_reducible refine Fr.drew ?_) | (with_reducible refine Fr.drewN ?_ _) | (with_reducible refine Fr.alloc ?_ _) | (with_reducible refine Fr.set ?_ _ _ (by first | (intros; omega) | (simp; done) | (simp; omega))) | (with_reducible refine Fr.via ?_ (by assumption)) | (with_reducible refine Fr.comp ?_ (by assumption))))) (fun _ _ q => q)) a n HA.out).mono ?_
  rw [HW.out]
  rintro e w1 ⟨rfl, f1⟩
  go_wp2
  go_ret
  exact ⟨rfl, by (repeat (first | (with_reducible exact Fr.refl _ _) | (with_reducible assumption) | (with_reducible exact Fr.of_nil (by assumption)) | (with_reducible refine Fr.drew ?_) | (with_reducible refine Fr.drewN ?_ _) | (with_reducible refine Fr.alloc ?_ _) | (with_reducible refine Fr.set ?_ _ _ (by first | (intros; omega) | (simp; done) | (simp; omega))) | (with_reducible refine Fr.via ?_ (by assumption)) | (with_reducible refine Fr.comp ?_ (by assumption))))⟩
theorem within_nat {f p : Nat} {a n : Int} (h : withinB f p a n = true) : ∃ a' n' : Nat, a = a' ∧ n = n' ∧ 1 ≤ n' ∧ f ≤ a' ∧ a' + n' ≤ f + p := by
  simp [withinB] at h
  exact ⟨a.toNat, n.toNat, by omega, by omega, by omega, by omega, by omega⟩
theorem give_twice (h : RoomAt w br f p v L) (a n : Nat) (h1 : 1 ≤ n) (h2 : f ≤ a) (h3 : a + n ≤ f + p) (hq : ∃ q, a ≤ q ∧ q < a + n ∧ hasL L q) : Calls Try.prog 18 #[.pointer (some ⟨br, 0, none⟩), .int .i64 (a : Int), .int .i64 (n : Int)] w fun e w' => e = .returned (.int .i64 5) ∧ Fr Nil w w' := by
  have hb : decide (0 ≤ idxP (fun x : Nat × Nat => meetB a n x) L) = true := decide_eq_true ((idxP_nn _ _).2 ((meet_iff h.can h1).2 hq))
  have hw : withinB f p a n = true := by simp [withinB]; omega
  have HB := Lib.hid (And.intro hb hw)
  have H := Lib.hid h
  have c2 := h.blk.cell 2
  simp at c2
  have hbr := h.blk.lt
  have hf := h.hf
  have hp := h.hp
  have hlen := h.len
  have hsm : Hid (∀ x ∈ L, x.1 + x.2 ≤ 1000000) := fun x hx => by have := can_mem h.can x hx; omega
  obtain ⟨a0, c0, e0⟩ := h.pairs.shape
  subst e0
  clear hb hw hq h
  go_enter Try.func18, Try.ntmps18
  go_wp2_with fail
  refine (within_any br f p _ L _ (H.out.fr (S := Nil) (by (repeat (first | (with_reducible exact Fr.refl _ _) | (with_reducible assumption) | (with_reducible exact Fr.of_nil (by assumption)) | (with_reducible refine Fr.drew ?_) | (with_reducible refine Fr.drewN ?_ _) | (with_reducible refine Fr.alloc ?_ _) | (with_reducible refine Fr.set ?_ _ _ (by first | (intros; omega) | (simp; done) | (simp; omega))) | (with_reducible refine Fr.via ?_ (by assumption)) | (with_reducible refine Fr.comp ?_ (by assumption))))) (fun _ _ q => q)) a n (by rw [IntKind.wrap_i64]; omega)).mono ?_
  rw [HB.out.2]
  rintro e w1 ⟨rfl, f1⟩
  obtain ⟨_, _, _⟩ := f1.at (w.heap.size) (by first | assumption | omega | (simp; done) | (simp; omega)); obtain ⟨_, _, _⟩ := f1.at (w.heap.size + 1) (by first | assumption | omega | (simp; done) | (simp; omega))
  obtain ⟨_, _, _⟩ := f1.at (br) (by first | assumption | omega | (simp; done) | (simp; omega))
  go_wp2_with fail
  refine (contains_meet (br + 1) _ L _ (H.out.pairs.fr (by (repeat (first | (with_reducible exact Fr.refl _ _) | (with_reducible assumption) | (with_reducible exact Fr.of_nil (by assumption)) | (with_reducible refine Fr.drew ?_) | (with_reducible refine Fr.drewN ?_ _) | (with_reducible refine Fr.alloc ?_ _) | (with_reducible refine Fr.set ?_ _ _ (by first | (intros; omega) | (simp; done) | (simp; omega))) | (with_reducible refine Fr.via ?_ (by assumption)) | (with_reducible refine Fr.comp ?_ (by assumption)))))) (by omega) w.heap.size (w.heap.size + 1) a n (by go_simp) (by go_simp) (by omega) hsm.out).mono ?_
  rw [HB.out.1]
  rintro e w2 ⟨rfl, f2⟩
  go_wp2
  go_ret
  exact ⟨rfl, by (repeat (first | (with_reducible exact Fr.refl _ _) | (with_reducible assumption) | (with_reducible exact Fr.of_nil (by assumption)) | (with_reducible refine Fr.drew ?_) | (with_reducible refine Fr.drewN ?_ _) | (with_reducible refine Fr.alloc ?_ _) | (with_reducible refine Fr.set ?_ _ _ (by first | (intros; omega) | (simp; done) | (simp; omega))) | (with_reducible refine Fr.via ?_ (by assumption)) | (with_reducible refine Fr.comp ?_ (by assumption))))⟩
set_option maxRecDepth 100000 in
set_option maxHeartbeats 4000000 in
theorem give_in (h : RoomAt w br f p v L) (a n : Nat) (h1 : 1 ≤ n) (h2 : f ≤ a) (h3 : a + n ≤ f + p) (hq : ∀ q, a ≤ q → q < a + n → ¬ hasL L q) :
    Calls Try.prog 18 #[.pointer (some ⟨br, 0, none⟩), .int .i64 (a : Int), .int .i64 (n : Int)] w fun e w' => ∃ v', e = .returned (.int .i64 0) ∧ RoomAt w' br f p v' (giveL a n L) ∧ (∀ k, v'.ownBlock = some k → v.ownBlock = some k ∨ w.heap.size ≤ k) ∧ Fr (TS br v) w w' := by
  have hb : decide (0 ≤ idxP (fun x : Nat × Nat => meetB a n x) L) = false := decide_eq_false (fun q => by
    obtain ⟨q, q1, q2, q3⟩ := (meet_iff h.can h1).1 ((idxP_nn _ _).1 q)
    exact hq q q1 q2 q3)
  have hw : withinB f p a n = true := by simp [withinB]; omega
  have hgive := (give_can h.can h1 h2 h3 hq).1
  have HB := Lib.hid (And.intro hb (And.intro hw hgive))
  have H := Lib.hid h
  have c2 := h.blk.cell 2
  simp at c2
  have hbr := h.blk.lt
  have hf := h.hf
  have hp := h.hp
  have hlen := h.len
  have hsm : Hid (∀ x ∈ L, x.1 + x.2 ≤ 1000000) := fun x hx => by have := can_mem h.can x hx; omega
  have hpl := idx_place a L
  have hpk := (placeL_split a L).1
  have hins : Hid ((∀ x ∈ insL a n L, x.1 + x.2 ≤ 1000000) ∧ (insL a n L).length ≤ 1000000) := by
    constructor
    · intro x hx
      unfold insL at hx
      rcases List.mem_append.1 hx with q | q
      · exact hsm.out x (List.mem_of_mem_take q)
      · rcases List.mem_cons.1 q with q | q
        · rw [q]; simp only []; omega
        · exact hsm.out x (List.mem_of_mem_drop q)
    · unfold insL
      simp
      omega
  obtain ⟨pk, hpke⟩ : ∃ pk, placeL a L = pk := ⟨_, rfl⟩
  rw [hpke] at hpl hpk
  obtain ⟨a0, c0, e0⟩ := h.pairs.shape
  have HK := Lib.hid hpke
  obtain ⟨N, hN⟩ : ∃ N, L.length = N := ⟨_, rfl⟩
  rw [hN] at hpl hpk hlen e0
  have HN := Lib.hid hN
  subst e0
  clear hb hw hq h hgive hpke hN
  go_enter Try.func18, Try.ntmps18
  go_wp2_with fail
  refine (within_any br f p _ L _ (H.out.fr (S := Nil) (by (repeat (first | (with_reducible exact Fr.refl _ _) | (with_reducible assumption) | (with_reducible exact Fr.of_nil (by assumption)) | (with_reducible refine Fr.drew ?_) | (with_reducible refine Fr.drewN ?_ _) | (with_reducible refine Fr.alloc ?_ _) | (with_reducible refine Fr.set ?_ _ _ (by first | (intros; omega) | (simp; done) | (simp; omega))) | (with_reducible refine Fr.via ?_ (by assumption)) | (with_reducible refine Fr.comp ?_ (by assumption))))) (fun _ _ q => q)) a n (by rw [IntKind.wrap_i64]; omega)).mono ?_
  rw [HB.out.2.1]
  rintro e w1 ⟨rfl, f1⟩
  obtain ⟨_, _, _⟩ := f1.at (w.heap.size) (by first | assumption | omega | (simp; done) | (simp; omega)); obtain ⟨_, _, _⟩ := f1.at (w.heap.size + 1) (by first | assumption | omega | (simp; done) | (simp; omega))
  obtain ⟨_, _, _⟩ := f1.at (br) (by first | assumption | omega | (simp; done) | (simp; omega))
  go_wp2_with fail
  refine (contains_meet (br + 1) _ L _ (H.out.pairs.fr (by (repeat (first | (with_reducible exact Fr.refl _ _) | (with_reducible assumption) | (with_reducible exact Fr.of_nil (by assumption)) | (with_reducible refine Fr.drew ?_) | (with_reducible refine Fr.drewN ?_ _) | (with_reducible refine Fr.alloc ?_ _) | (with_reducible refine Fr.set ?_ _ _ (by first | (intros; omega) | (simp; done) | (simp; omega))) | (with_reducible refine Fr.via ?_ (by assumption)) | (with_reducible refine Fr.comp ?_ (by assumption)))))) (by rw [HN.out]; omega) w.heap.size (w.heap.size + 1) a n (by go_simp) (by go_simp) (by omega) hsm.out).mono ?_
  rw [HB.out.1]
  rintro e w2 ⟨rfl, f2⟩
  obtain ⟨_, _, _⟩ := f2.at (w.heap.size) (by first | assumption | omega | (simp; done) | (simp; omega)); obtain ⟨_, _, _⟩ := f2.at (w.heap.size + 1) (by first | assumption | omega | (simp; done) | (simp; omega))
  obtain ⟨_, _, _⟩ := f2.at (br) (by first | assumption | omega | (simp; done) | (simp; omega))
  go_wp2_with fail
  refine (index_past (br + 1) _ L _ (H.out.pairs.fr (by (repeat (first | (with_reducible exact Fr.refl _ _) | (with_reducible assumption) | (with_reducible exact Fr.of_nil (by assumption)) | (with_reducible refine Fr.drew ?_) | (with_reducible refine Fr.drewN ?_ _) | (with_reducible refine Fr.alloc ?_ _) | (with_reducible refine Fr.set ?_ _ _ (by first | (intros; omega) | (simp; done) | (simp; omega))) | (with_reducible refine Fr.via ?_ (by assumption)) | (with_reducible refine Fr.comp ?_ (by assumption)))))) (by rw [HN.out]; omega) w.heap.size (a : Int) (by go_simp)).mono ?_
  rintro e w3 ⟨rfl, f3⟩
  obtain ⟨_, _, _⟩ := f3.at (w.heap.size) (by first | assumption | omega | (simp; done) | (simp; omega)); obtain ⟨_, _, _⟩ := f3.at (w.heap.size + 1) (by first | assumption | omega | (simp; done) | (simp; omega))
  obtain ⟨_, _, _⟩ := f3.at (br) (by first | assumption | omega | (simp; done) | (simp; omega))
  have f0 : Fr Nil w w3 := by (repeat (first | (with_reducible exact Fr.refl _ _) | (with_reducible assumption) | (with_reducible exact Fr.of_nil (by assumption)) | (with_reducible refine Fr.drew ?_) | (with_reducible refine Fr.drewN ?_ _) | (with_reducible refine Fr.alloc ?_ _) | (with_reducible refine Fr.set ?_ _ _ (by first | (intros; omega) | (simp; done) | (simp; omega))) | (with_reducible refine Fr.via ?_ (by assumption)) | (with_reducible refine Fr.comp ?_ (by assumption))))
  have hR := H.out.fr f0 (fun _ _ q => q)
  have hRb := hR.blk
  have zb := H.out.blk.free 2
  have hown : ∀ k, (Value.slice a0 N c0).ownBlock = some k → k < w.heap.size ∧ br + 1 ≤ k := fun k q => by
    have := H.out.pairs.own (k := k) (by cases a0 <;> exact q)
    omega
  have HR := Lib.hid (And.intro f0 (And.intro hR (And.intro hRb hown)))
  clear f0 hR hRb hown f1 f2 f3
  rcases hpl with ⟨e1, e2⟩ | e1
  · rw [e1]
    subst e2
    go_upto_region 8 with fail
    go_cut [] (fun wx => ∃ v', RoomW wx br f p v' (insL a n L) ∧ (∀ k, v'.ownBlock = some k → (Value.slice a0 pk c0).ownBlock = some k ∨ w.heap.size ≤ k) ∧ Fr (TS br (Value.slice a0 pk c0)) w wx)
    case first =>
      go_region_with (go_at_call 27; refine (insert_any (br + 1) _ L pk (a, n) _ _ _ (HR.out.2.1.pairs.fr (by (repeat (first | (with_reducible exact Fr.refl _ _) | (with_reducible assumption) | (with_reducible exact Fr.of_nil (by assumption)) | (with_reducible refine Fr.drew ?_) | (with_reducible refine Fr.drewN ?_ _) | (with_reducible refine Fr.alloc ?_ _) | (with_reducible refine Fr.set ?_ _ _ (by first | (intros; omega) | (simp; done) | (simp; omega))) | (with_reducible refine Fr.via ?_ (by assumption)) | (with_reducible refine Fr.comp ?_ (by assumption)))))) (by have := HN.out; omega) (by (unfold Blk; simp (disch := first | omega | (simp; done) | (simp; omega)) only [hp_drew, hp_drewN, hp_alloc, hp_other, hp_same, hp_new, upd_cells, Option.map_some]); rfl) (fun q => by have := (HR.out.2.2.2 _ q).1; omega) (by have := HN.out; omega) (by simp; omega)).mono ?_; rintro e w5 ⟨v', rfl, d1, d2, d3⟩; obtain ⟨a2, cp2, e9⟩ := d1.shape; obtain ⟨lz, hlz⟩ : ∃ lz, (List.take pk L ++ (a, n) :: List.drop pk L).length = lz := ⟨_, rfl⟩; rw [hlz] at e9; subst e9; clear hlz; have b5 := d3.blk ((show Fr Nil w3 _ from by (repeat (first | (with_reducible exact Fr.refl _ _) | (with_reducible assumption) | (with_reducible exact Fr.of_nil (by assumption)) | (with_reducible refine Fr.drew ?_) | (with_reducible refine Fr.drewN ?_ _) | (with_reducible refine Fr.alloc ?_ _) | (with_reducible refine Fr.set ?_ _ _ (by first | (intros; omega) | (simp; done) | (simp; omega))) | (with_reducible refine Fr.via ?_ (by assumption)) | (with_reducible refine Fr.comp ?_ (by assumption))))).blk HR.out.2.2.1 (fun q => q)) (fun q => by have := (HR.out.2.2.2 _ q).2; omega); have c5 := b5.cell 2; simp at c5; have z5 := b5.free 2; have b5l := b5.lt; have hsz5 := d3.size; simp at hsz5)
      all_goals
        obtain ⟨LI, hLI⟩ : ∃ LI, List.take pk L ++ (a, n) :: List.drop pk L = LI := ⟨_, rfl⟩
        have hLI' : insL a n L = LI := by rw [← hLI]; unfold insL; rw [HK.out]
        rw [hLI] at d1
        obtain ⟨hi1, hi2⟩ := hins.out
        rw [hLI'] at hi1 hi2
        obtain ⟨V', hV'⟩ : ∃ V', V' = Value.slice a2 lz cp2 := ⟨_, rfl⟩
        rw [← hV'] at d1 d2
        have fin : RoomW (w5.setCell ⟨br, 2, none⟩ V') br f p V' LI := ⟨b5.put (by simp), d1.other (fun q => by have := d1.own (k := br) q; omega) _, hi1, hi2⟩
        have fo : ∀ k, V'.ownBlock = some k → (Value.slice a0 pk c0).ownBlock = some k ∨ w.heap.size ≤ k := fun k q => by
          rcases d2 with d2 | d2
          · rw [d2] at q; exact .inl q
          · rw [d2] at q; injection q with q; simp at q; exact .inr (by have := HR.out.1.size; omega)
        have ff : Fr (TS br (Value.slice a0 pk c0)) w (w5.setCell ⟨br, 2, none⟩ V') := (Fr.comp (Fr.of_nil (Fr.comp HR.out.1 (show Fr Nil w3 _ from by (repeat (first | (with_reducible exact Fr.refl _ _) | (with_reducible assumption) | (with_reducible exact Fr.of_nil (by assumption)) | (with_reducible refine Fr.drew ?_) | (with_reducible refine Fr.drewN ?_ _) | (with_reducible refine Fr.alloc ?_ _) | (with_reducible refine Fr.set ?_ _ _ (by first | (intros; omega) | (simp; done) | (simp; omega))) | (with_reducible refine Fr.via ?_ (by assumption)) | (with_reducible refine Fr.comp ?_ (by assumption))))))) (d3.mono (fun b _ q => .inr q))).set _ _ (fun _ => .inl rfl)
        have HF := Lib.hid (And.intro fin (And.intro fo (And.intro ff hLI')))
        clear fin fo ff d1 d2 d3 hi1 hi2 hLI hLI'
        subst hV'
        go_wp2_with fail
        go_meet
        case rel =>
          rw [HF.out.2.2.2]
          exact ⟨_, ⟨HF.out.1.blk, HF.out.1.pairs, HF.out.1.small, HF.out.1.len⟩, HF.out.2.1, by first | exact HF.out.2.2.1 | exact HF.out.2.2.1.drew⟩
    case rest =>
      obtain ⟨v2, hw2, ho2, ff2⟩ := hcut
      have HC := Lib.hid (And.intro hw2 (And.intro ho2 ff2))
      clear hw2 ho2 ff2
      have wk : IntKind.i64.wrap ((pk : Int) - 1) = (pk : Int) - 1 := by rw [IntKind.wrap_i64]; omega
      go_wp2_with fail
      refine (join_any br f p v2 _ _ HC.out.1 (pk : Int) (by omega)).mono ?_
      rintro e w6 ⟨v3, rfl, hw3, ho3, ff3⟩
      go_wp2_with fail
      refine (join_any br f p v3 _ _ hw3 ((pk : Int) - 1) (by omega)).mono ?_
      rintro e w7 ⟨v4, rfl, hw4, ho4, ff4⟩
      have e3 : joinI ((pk : Int) - 1) (joinI (pk : Int) (insL a n L)) = giveL a n L := by unfold giveL; rw [HK.out]
      rw [e3] at hw4
      have fin : RoomAt w7 br f p v4 (giveL a n L) := ⟨hw4.blk, hw4.pairs, HB.out.2.2, hf, hp⟩
      have fo : ∀ k, v4.ownBlock = some k → (Value.slice a0 pk c0).ownBlock = some k ∨ w.heap.size ≤ k := fun k q => HC.out.2.1 k (by rw [← ho3, ← ho4]; exact q)
      have ff : Fr (TS br (Value.slice a0 pk c0)) w w7 := by
        have t1 : ∀ b, b < w.heap.size → TS br v2 b → TS br (Value.slice a0 pk c0) b := fun b hb q => by
          rcases q with q | q
          · exact .inl q
          · rcases HC.out.2.1 b q with r | r
            · exact .inr r
            · omega
        have t3 : ∀ b, b < w.heap.size → TS br v3 b → TS br (Value.slice a0 pk c0) b := fun b hb q => t1 b hb (by
          rcases q with q | q
          · exact .inl q
          · rw [ho3] at q; exact .inr q)
        exact (HC.out.2.2.trans ff3 t1).trans ff4 t3
      have HF := Lib.hid (And.intro fin (And.intro fo ff))
      clear fin fo ff hw3 ho3 ff3 hw4 ho4 ff4
      go_wp2
      go_ret
      exact ⟨_, rfl, HF.out.1, HF.out.2.1, HF.out.2.2⟩
  · rw [e1]
    have i2 : ¬ (pk : Int) < 0 := by omega
    go_upto_region 8 with fail
    go_cut [] (fun wx => ∃ v', RoomW wx br f p v' (insL a n L) ∧ (∀ k, v'.ownBlock = some k → (Value.slice a0 N c0).ownBlock = some k ∨ w.heap.size ≤ k) ∧ Fr (TS br (Value.slice a0 N c0)) w wx)
    case first =>
      go_region_with (go_at_call 27; refine (insert_any (br + 1) _ L pk (a, n) _ _ _ (HR.out.2.1.pairs.fr (by (repeat (first | (with_reducible exact Fr.refl _ _) | (with_reducible assumption) | (with_reducible exact Fr.of_nil (by assumption)) | (with_reducible refine Fr.drew ?_) | (with_reducible refine Fr.drewN ?_ _) | (with_reducible refine Fr.alloc ?_ _) | (with_reducible refine Fr.set ?_ _ _ (by first | (intros; omega) | (simp; done) | (simp; omega))) | (with_reducible refine Fr.via ?_ (by assumption)) | (with_reducible refine Fr.comp ?_ (by assumption)))))) (by have := HN.out; omega) (by (unfold Blk; simp (disch := first | omega | (simp; done) | (simp; omega)) only [hp_drew, hp_drewN, hp_alloc, hp_other, hp_same, hp_new, upd_cells, Option.map_some]); rfl) (fun q => by have := (HR.out.2.2.2 _ q).1; omega) (by have := HN.out; omega) (by simp; omega)).mono ?_; rintro e w5 ⟨v', rfl, d1, d2, d3⟩; obtain ⟨a2, cp2, e9⟩ := d1.shape; obtain ⟨lz, hlz⟩ : ∃ lz, (List.take pk L ++ (a, n) :: List.drop pk L).length = lz := ⟨_, rfl⟩; rw [hlz] at e9; subst e9; clear hlz; have b5 := d3.blk ((show Fr Nil w3 _ from by (repeat (first | (with_reducible exact Fr.refl _ _) | (with_reducible assumption) | (with_reducible exact Fr.of_nil (by assumption)) | (with_reducible refine Fr.drew ?_) | (with_reducible refine Fr.drewN ?_ _) | (with_reducible refine Fr.alloc ?_ _) | (with_reducible refine Fr.set ?_ _ _ (by first | (intros; omega) | (simp; done) | (simp; omega))) | (with_reducible refine Fr.via ?_ (by assumption)) | (with_reducible refine Fr.comp ?_ (by assumption))))).blk HR.out.2.2.1 (fun q => q)) (fun q => by have := (HR.out.2.2.2 _ q).2; omega); have c5 := b5.cell 2; simp at c5; have z5 := b5.free 2; have b5l := b5.lt; have hsz5 := d3.size; simp at hsz5)
      all_goals
        obtain ⟨LI, hLI⟩ : ∃ LI, List.take pk L ++ (a, n) :: List.drop pk L = LI := ⟨_, rfl⟩
        have hLI' : insL a n L = LI := by rw [← hLI]; unfold insL; rw [HK.out]
        rw [hLI] at d1
        obtain ⟨hi1, hi2⟩ := hins.out
        rw [hLI'] at hi1 hi2
        obtain ⟨V', hV'⟩ : ∃ V', V' = Value.slice a2 lz cp2 := ⟨_, rfl⟩
        rw [← hV'] at d1 d2
        have fin : RoomW (w5.setCell ⟨br, 2, none⟩ V') br f p V' LI := ⟨b5.put (by simp), d1.other (fun q => by have := d1.own (k := br) q; omega) _, hi1, hi2⟩
        have fo : ∀ k, V'.ownBlock = some k → (Value.slice a0 N c0).ownBlock = some k ∨ w.heap.size ≤ k := fun k q => by
          rcases d2 with d2 | d2
          · rw [d2] at q; exact .inl q
          · rw [d2] at q; injection q with q; simp at q; exact .inr (by have := HR.out.1.size; omega)
        have ff : Fr (TS br (Value.slice a0 N c0)) w (w5.setCell ⟨br, 2, none⟩ V') := (Fr.comp (Fr.of_nil (Fr.comp HR.out.1 (show Fr Nil w3 _ from by (repeat (first | (with_reducible exact Fr.refl _ _) | (with_reducible assumption) | (with_reducible exact Fr.of_nil (by assumption)) | (with_reducible refine Fr.drew ?_) | (with_reducible refine Fr.drewN ?_ _) | (with_reducible refine Fr.alloc ?_ _) | (with_reducible refine Fr.set ?_ _ _ (by first | (intros; omega) | (simp; done) | (simp; omega))) | (with_reducible refine Fr.via ?_ (by assumption)) | (with_reducible refine Fr.comp ?_ (by assumption))))))) (d3.mono (fun b _ q => .inr q))).set _ _ (fun _ => .inl rfl)
        have HF := Lib.hid (And.intro fin (And.intro fo (And.intro ff hLI')))
        clear fin fo ff d1 d2 d3 hi1 hi2 hLI hLI'
        subst hV'
        go_wp2_with fail
        go_meet
        case rel =>
          rw [HF.out.2.2.2]
          exact ⟨_, ⟨HF.out.1.blk, HF.out.1.pairs, HF.out.1.small, HF.out.1.len⟩, HF.out.2.1, by first | exact HF.out.2.2.1 | exact HF.out.2.2.1.drew⟩
    case rest =>
      obtain ⟨v2, hw2, ho2, ff2⟩ := hcut
      have HC := Lib.hid (And.intro hw2 (And.intro ho2 ff2))
      clear hw2 ho2 ff2
      have wk : IntKind.i64.wrap ((pk : Int) - 1) = (pk : Int) - 1 := by rw [IntKind.wrap_i64]; omega
      go_wp2_with fail
      refine (join_any br f p v2 _ _ HC.out.1 (pk : Int) (by omega)).mono ?_
      rintro e w6 ⟨v3, rfl, hw3, ho3, ff3⟩
      go_wp2_with fail
      refine (join_any br f p v3 _ _ hw3 ((pk : Int) - 1) (by omega)).mono ?_
      rintro e w7 ⟨v4, rfl, hw4, ho4, ff4⟩
      have e3 : joinI ((pk : Int) - 1) (joinI (pk : Int) (insL a n L)) = giveL a n L := by unfold giveL; rw [HK.out]
      rw [e3] at hw4
      have fin : RoomAt w7 br f p v4 (giveL a n L) := ⟨hw4.blk, hw4.pairs, HB.out.2.2, hf, hp⟩
      have fo : ∀ k, v4.ownBlock = some k → (Value.slice a0 N c0).ownBlock = some k ∨ w.heap.size ≤ k := fun k q => HC.out.2.1 k (by rw [← ho3, ← ho4]; exact q)
      have ff : Fr (TS br (Value.slice a0 N c0)) w w7 := by
        have t1 : ∀ b, b < w.heap.size → TS br v2 b → TS br (Value.slice a0 N c0) b := fun b hb q => by
          rcases q with q | q
          · exact .inl q
          · rcases HC.out.2.1 b q with r | r
            · exact .inr r
            · omega
        have t3 : ∀ b, b < w.heap.size → TS br v3 b → TS br (Value.slice a0 N c0) b := fun b hb q => t1 b hb (by
          rcases q with q | q
          · exact .inl q
          · rw [ho3] at q; exact .inr q)
        exact (HC.out.2.2.trans ff3 t1).trans ff4 t3
      have HF := Lib.hid (And.intro fin (And.intro fo ff))
      clear fin fo ff hw3 ho3 ff3 hw4 ho4 ff4
      go_wp2
      go_ret
      exact ⟨_, rfl, HF.out.1, HF.out.2.1, HF.out.2.2⟩
end
end Go.Proofs.Ytjcnbfiholcjkaa
