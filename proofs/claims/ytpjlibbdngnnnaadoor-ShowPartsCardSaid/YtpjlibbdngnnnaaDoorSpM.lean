/-
  Maps of names to int that a call makes: what each key tells; copies of them (layers 10, 11). No conditions.
-/
import Derived.Test.YtpjlibbdngnnnaaDoorSpB
import Derived.Shelf.SlMaps.Clone
import Derived.MapKept
import Derived.Maps.RangeWalk
import Derived.Maps.OwnOps
import Derived.Maps.OwnSet
import Derived.StringKeys
namespace Go.Proofs.YtpjlibbdngnnnaaDoor
set_option linter.unusedSimpArgs false
set_option linter.unusedVariables false
open Go.RowKit Go.Maps

theorem strK : Keyed Tryd.prog 9 := string_keyed Tryd.underlying9
theorem zeroI (w : World) : (zeroValue 3).run Tryd.prog w = .ok (.int .i64 0) w := by kernel_rfl
/-- Block b is a map of at most n keys; a key tells f of it, nought where it isn't there. -/
def SMap (w : World) (b n : Nat) (f : List UInt8 → Int) : Prop :=
  ∃ D : DataW Unit, w.ownsMap Tryd.prog 9 (plainElem Tryd.prog 3) b n D ∧ (∀ x, x.length ≤ maxLen → D.atKey (.string x) (.lit (.int .i64 0)) = .lit (.int .i64 (f x)))
theorem keyS {x : List UInt8} (h : x.length ≤ maxLen) : keyOf Tryd.prog 9 (.string ⟨x.toArray⟩) = some (.string x) := by
  have := Go.WideMaps.keyOf_string_mk (P := Tryd.prog) (k := 9) Tryd.underlying9 (s := ⟨x.toArray⟩) (by simpa [ByteArray.size] using h)
  simpa using this
theorem SMap.made (w : World) : SMap (w.alloc (.map #[] 0)) w.heap.size 0 (fun _ => 0) := ⟨_, World.ownsMap_made w _ _ _, fun c _ => rfl⟩
theorem SMap.lt {w : World} {b n : Nat} {f : List UInt8 → Int} (h : SMap w b n f) : b < w.heap.size := by
  obtain ⟨D, h, _⟩ := h
  exact h.lt
theorem SMap.mono {w : World} {b n m : Nat} {f : List UInt8 → Int} (h : SMap w b n f) (hn : n ≤ m) : SMap w b m f := by
  obtain ⟨D, h, r⟩ := h
  exact ⟨D, h.mono hn, r⟩
theorem SMap.fr {S : Nat → Prop} {w w' : World} {b n : Nat} {f : List UInt8 → Int} (h : SMap w b n f) (g : Fr S w w') (hs : ¬ S b) : SMap w' b n f := by
  obtain ⟨D, h, r⟩ := h
  have hl := h.lt
  obtain ⟨es, cl, hb, q⟩ := h
  exact ⟨D, ⟨es, cl, (g.block b hl hs).trans hb, q⟩, r⟩
theorem SMap.congr {w : World} {b n : Nat} {f g : List UInt8 → Int} (h : SMap w b n f) (e : ∀ x, x.length ≤ maxLen → f x = g x) : SMap w b n g := by
  obtain ⟨D, h, r⟩ := h
  exact ⟨D, h, fun x hx => by rw [r x hx, e x hx]⟩
set_option maxRecDepth 100000 in
/-- A look-up, as an equation on its run. -/
theorem SMap.run {mt : TypeId} (hmt : Tryd.prog.underlying mt = some (.map 9 3)) {w : World} {b n : Nat} {f : List UInt8 → Int} (h : SMap w b n f) {x : List UInt8} (hx : x.length ≤ maxLen) :
    (Instr.lookup mt (.map (some b)) (.string ⟨x.toArray⟩) false).run Tryd.prog w = .ok (.int .i64 (f x)) w := by
  obtain ⟨D, h, h1⟩ := h
  obtain ⟨v, hrun, hv, _⟩ := h.lookup_int strK hmt Tryd.underlying3 (zeroI _) (keyS hx)
  have e := (h1 x hx).symm.trans hv
  injection e with e
  injection e with _ e
  exact hrun.trans (by rw [e])
section
variable {P : Program} (w : World) {ops : Array Oper} {rest : List Oper} {o : Oper} {a : Act} {Q : Exit → Act → World → Prop}
/-- m[x]. -/
theorem wp_lookS {mt : TypeId} (hmt : Tryd.prog.underlying mt = some (.map 9 3)) (hg : o.guard = none) (m k : Operand) (hop : o.op = Op.lookup mt m k false) (b n : Nat) (f : List UInt8 → Int) (hm : a.eval m = .map (some b)) (h : SMap w b n f)
    (x : List UInt8) (hx : a.eval k = .string ⟨x.toArray⟩) (hl : x.length ≤ maxLen) (hK : wpList Tryd.prog ops Q rest (a.put o.dst (.int .i64 (f x))) w) : wpList Tryd.prog ops Q (o :: rest) a w := by
  obtain ⟨D, h, h1⟩ := h
  refine wpList_lookup_own_int w hg m k _ hop 9 3 .i64 strK hmt Tryd.underlying3 (zeroI _) b n D hm h _ _ hx (keyS hl) ?_
  intro v hv _
  have e := (h1 x hl).symm.trans hv
  injection e with e
  injection e with _ e
  rw [← e]
  exact hK
theorem turned_fr {w w' : World} {b : Nat} (g2 : w.mapTurned w' b) : Fr (fun x => x = b) w w' ∧ w'.heap.size = w.heap.size := by
  refine ⟨Fr.grown (Fr.refl _ _) g2.grown (fun k q _ => by cases q; rfl), ?_⟩
  obtain ⟨es, cl, es', cl', _, rfl⟩ := g2
  simp [Go.ChangeMaps.setBlock]
/-- m[x] = d. -/
theorem wp_putS {mt : TypeId} (hmt : Tryd.prog.underlying mt = some (.map 9 3)) (hg : o.guard = none) (m k v : Operand) (hop : o.op = Op.mapUpdate mt m k v) (b n : Nat) (f : List UInt8 → Int) (hm : a.eval m = .map (some b)) (h : SMap w b n f) (hn : n < 1000000)
    (x : List UInt8) (d : Int) (hx : a.eval k = .string ⟨x.toArray⟩) (hv : a.eval v = .int .i64 d) (hl : x.length ≤ maxLen) (hd : (Lit.int .i64 d).wf = true)
    (hK : ∀ w', SMap w' b (n + 1) (fun y => if y = x then d else f y) → Fr (fun x => x = b) w w' → w'.heap.size = w.heap.size → wpList Tryd.prog ops Q rest (a.put o.dst undef) w') : wpList Tryd.prog ops Q (o :: rest) a w := by
  obtain ⟨D, h, h1⟩ := h
  have hti := h.tidy strK
  refine wpList_mapUpdate_in w hg m k v _ hop 9 3 strK hmt _ b n D hm h (by unfold maxLen; omega) _ _ _ hx hv (keyS hl) _ [] (plainElem_int Tryd.underlying3 hd) ?_
  intro w' g1 g2
  obtain ⟨q1, q2⟩ := turned_fr g2
  refine hK w' ⟨_, g1, ?_⟩ q1 q2
  intro y hy
  by_cases e : y = x
  · subst e
    simp only [if_true]
    exact atKey_put_same hti.isMap (k := .string y) trivial _ _
  · simp only [if_neg e]
    rw [atKey_put_other (by simpa using e)]
    exact h1 y hy
end
/-- How often a name stands in a list. -/
def cnt (l : List (List UInt8)) (x : List UInt8) : Int := (l.count x : Int)
theorem cnt_snoc (l : List (List UInt8)) (x : List UInt8) (y : List UInt8) : cnt (l ++ [x]) y = if y = x then cnt l x + 1 else cnt l y := by
  unfold cnt
  by_cases e : y = x
  · subst e
    rw [if_pos rfl]
    simp [List.count_append]
  · rw [if_neg e]
    simp [List.count_append, List.count_cons, show ¬ x = y from fun q => e q.symm]
theorem cnt_zero {l : List (List UInt8)} {x : List UInt8} : cnt l x = 0 ↔ x ∉ l := by
  unfold cnt
  rw [← List.count_eq_zero]
  omega
theorem wf_small {d : Int} (h1 : 0 ≤ d) (h2 : d ≤ 1000000) : (Lit.int .i64 d).wf = true := by
  simp [Lit.wf, IntKind.min, IntKind.max, IntKind.signed, IntKind.bits]
  omega
set_option maxRecDepth 100000 in
/-- maps.Clone of names. -/
theorem clone_any {w : World} {b n : Nat} {f : List UInt8 → Int} (h : SMap w b n f) :
    Calls Tryd.prog 63 #[.map (some b)] w fun e w' => e = .returned (.map (some w.heap.size)) ∧ SMap w' w.heap.size n f ∧ Fr Nil w w' := by
  obtain ⟨D, h, r⟩ := h
  obtain ⟨es, clock, hb, F, hs, hD⟩ := h
  have hfin : Hid (SMap (w.alloc (.map es clock)) w.heap.size n f) := Lib.hid ⟨D, ⟨es, clock, (MapKept.heap_alloc w _).1, F, hs, hD⟩, r⟩
  have hq := fun w => run_eql_map_nil_sl (P := Tryd.prog) w 62 _ _ (some b) Tryd.underlying62
  have hb' := Lib.hid hb
  clear hb r
  go_enter Tryd.func63, Tryd.ntmps63
  go_wp2
  rw [run_callFunc_extern Tryd.func100 (by kernel_rfl) (by kernel_rfl) (by kernel_rfl) (e := Extern.MapsClone.clone) (by kernel_rfl), run_maps_clone_sl w 62 hb'.out]
  simp only [Result.andThen]
  rw [Oper.upon_value]
  go_wp2
  rw [run_typeAssert_map_sl _ 62 20 _ _ _ Tryd.underlying62]
  simp only [Result.andThen]
  rw [Oper.upon_value]
  go_wp2
  go_ret
  exact ⟨rfl, hfin.out, by (repeat (first | (with_reducible exact Fr.refl _ _) | (with_reducible assumption) | (with_reducible exact Fr.of_nil (by assumption)) | (with_reducible refine Fr.drew ?_) | (with_reducible refine Fr.drewN ?_ _) | (with_reducible refine Fr.alloc ?_ _) | (with_reducible refine Fr.set ?_ _ _ (by first | (intros; omega) | (simp; done) | (simp; omega))) | (with_reducible refine Fr.via ?_ (by assumption)) | (with_reducible refine Fr.comp ?_ (by assumption))))⟩
set_option maxRecDepth 100000 in
set_option maxHeartbeats 4000000 in
/-- These names, and more. -/
theorem with_any {X : Nat → Prop} {w : World} {mi : Nat} {i l : List (List UInt8)} {lv : Value} (h : SMap w mi i.length (cnt i)) (hr : RowS X w lv l) (hl : ∀ x ∈ l, x.length ≤ maxLen) (hn : i.length + l.length ≤ 900000) :
    Calls Tryd.prog 24 #[.map (some mi), lv] w fun r w' => ∃ mo, r = .returned (.map (some mo)) ∧ SMap w' mo (i ++ l).length (cnt (i ++ l)) ∧ Fr Nil w w' := by
  obtain ⟨av, cv, rfl⟩ := RowC.shape hr
  obtain ⟨M, hM⟩ : ∃ M, l.length = M := ⟨_, rfl⟩
  rw [hM] at hn ⊢
  have H0 := Lib.hid (And.intro h (And.intro (RowS.nocare hr) (And.intro hl hM)))
  clear h hr hl hM
  go_enter Tryd.func24, Tryd.ntmps24
  go_wp2_with fail
  refine (clone_any H0.out.1).mono ?_
  rintro e w1 ⟨rfl, hm1, f1⟩
  obtain ⟨mo, hmo⟩ : ∃ mo, w.heap.size = mo := ⟨_, rfl⟩
  rw [hmo] at hm1 ⊢
  have H1 := Lib.hid (And.intro hm1 (And.intro f1 hmo))
  clear hm1 f1 hmo
  go_wp2_with fail
  go_loopg [12] M (fun g iv wr => ∃ k : Nat, g = M - k ∧ k ≤ M ∧ iv = .int .i64 (k : Int) ∧ Hid (SMap wr mo (i.length + k) (cnt (i ++ l.take k)) ∧ Fr Nil w wr))
  case atStart => exact ⟨0, rfl, by omega, rfl, Lib.hid ⟨by simpa using H1.out.1, H1.out.2.1⟩⟩
  case round =>
    obtain ⟨k, rfl, hk, rfl, HS⟩ := hrel
    have i0 : (0 : Int) ≤ (k : Int) := by omega
    by_cases hlt : k < M
    · have hkL : k < l.length := by rw [H0.out.2.2.2]; exact hlt
      have wkk : IntKind.i64.wrap ((k : Int) + 1) = (k : Int) + 1 := by rw [IntKind.wrap_i64]; omega
      obtain ⟨b, off, rfl, _, p0⟩ := (RowS.fr H0.out.2.1 HS.out.2 (fun _ q => q.elim)).cell k hkL
      obtain ⟨x, ex⟩ : ∃ x, l[k] = x := ⟨_, rfl⟩
      rw [ex] at p0
      have i1 : (k : Int) < (M : Int) := by omega
      obtain ⟨F, hF⟩ : ∃ F, cnt (i ++ l.take k) = F := ⟨_, rfl⟩
      obtain ⟨c, hc⟩ : ∃ c : Nat, (i ++ l.take k).count x = c := ⟨_, rfl⟩
      have hFx : F x = (c : Int) := by rw [← hF, ← hc]; rfl
      have hcl : c ≤ 900000 := by
        have := List.count_le_length (a := x) (l := i ++ l.take k)
        rw [List.length_append, List.length_take] at this
        omega
      have HM : Hid (SMap wr mo (i.length + k) F) := Lib.hid (hF ▸ HS.out.1)
      have hsn : cnt (i ++ l.take (k + 1)) = fun y => if y = x then (c : Int) + 1 else F y := by
        funext y
        rw [List.take_succ_eq_append_getElem hkL, ← List.append_assoc, ex, cnt_snoc, hF, hFx]
      have HX := Lib.hid (And.intro hsn (show x.length ≤ maxLen from H0.out.2.2.1 x (ex ▸ List.getElem_mem hkL)))
      have wc : IntKind.i64.wrap ((c : Int) + 1) = (c : Int) + 1 := by rw [IntKind.wrap_i64]; omega
      clear ex hF hc hsn
      go_wp2_with (first
        | (at_lookup; refine wp_lookS _ Tryd.underlying62 rfl _ _ rfl mo (i.length + k) F rfl HM.out x rfl HX.out.2 ?_; rw [hFx])
        | (at_mapUpdate; refine wp_putS _ Tryd.underlying62 rfl _ _ _ rfl mo (i.length + k) F rfl HM.out (by omega) x ((c : Int) + 1) rfl rfl HX.out.2 (wf_small (by omega) (by omega)) ?_; intro w5 hM5 f5 hz5; have H5 := Lib.hid (And.intro hM5 f5); clear hM5 f5 hz5)
        | fail)
      go_roundg (M - (k + 1))
      case rel => exact ⟨k + 1, rfl, by omega, by simp, Lib.hid ⟨by rw [HX.out.1]; exact H5.out.1, HS.out.2.trans H5.out.2 (fun b hb q => by
        have := H1.out.2.2
        have q' : b = mo := q
        omega)⟩⟩
      case measure => omega
    · have i1 : ¬ (k : Int) < (M : Int) := by omega
      obtain rfl : M = k := by omega
      have HS1 : Hid (SMap wr mo (i ++ l).length (cnt (i ++ l)) ∧ Fr Nil w wr) := Lib.hid (by
        have h := HS.out
        rw [List.take_of_length_le (by rw [H0.out.2.2.2]; exact Nat.le_refl _)] at h
        rw [List.length_append, H0.out.2.2.2]
        exact h)
      go_wp2
      go_ret
      exact ⟨mo, rfl, by have := HS1.out.1; rwa [List.length_append] at this, HS1.out.2⟩
end Go.Proofs.YtpjlibbdngnnnaaDoor
