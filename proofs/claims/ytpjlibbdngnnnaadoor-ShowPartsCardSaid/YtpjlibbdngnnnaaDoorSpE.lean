/-
  The program's scope (layer 10): faults as errors; a name twice; a constructor's name; the first of several questions. No conditions.
-/
import Derived.Test.YtpjlibbdngnnnaaDoorSpM
import Derived.Test.YtpjlibbdngnnnaaDoorSpP
import Derived.OwnWalkIn
import Derived.TacticsInMore
namespace Go.Proofs.YtpjlibbdngnnnaaDoor
set_option linter.unusedSimpArgs false
set_option linter.unusedVariables false
open Go.RowKit

/-- An error that is such a fault. -/
def ErrAt (w : World) (v : Value) (s : FS) : Prop := (s.1 = 0 ∧ v = .nilIface) ∨ (s.1 ≠ 0 ∧ ∃ b, v = .iface 75 (.pointer (some ⟨b, 0, none⟩)) ∧ Blk w b #[.int .i64 (s.1 : Int), .string ⟨s.2.toArray⟩] 79)
theorem ErrAt.fr {w w' : World} {v : Value} {s : FS} (h : ErrAt w v s) (f : Fr Nil w w') : ErrAt w' v s := by
  rcases h with h | ⟨h1, b, h2, h3⟩
  · exact .inl h
  · exact .inr ⟨h1, b, h2, f.blk h3 (fun q => q)⟩
theorem ErrAt.none {w : World} : ErrAt w .nilIface noF := .inl ⟨rfl, rfl⟩
/-- A call answers with such a fault; all that was there stays. -/
def Told (s : FS) (w : World) : Ending → World → Prop := fun e w2 => ∃ v, e = .returned v ∧ ErrAt w2 v s ∧ Fr Nil w w2
theorem Told.back {s : FS} {w0 w : World} {e : Ending} {w2 : World} (h : Told s w e w2) (f : Fr Nil w0 w) : Told s w0 e w2 := by
  obtain ⟨v, h1, h2, h3⟩ := h
  exact ⟨v, h1, h2, f.comp h3⟩
/-- A function value that asks for such a fault. -/
def FnAt (w : World) (v : Value) (s : FS) : Prop := ∃ (gf : Nat) (p : Array Value), v = .func (.func gf) #[] p ∧ Enters Tryd.prog gf ∧ ∀ w', Fr Nil w w' → Calls Tryd.prog gf p w' (Told s w')
theorem FnAt.fr {w w' : World} {v : Value} {s : FS} (h : FnAt w v s) (f : Fr Nil w w') : FnAt w' v s := by
  obtain ⟨gf, p, h1, h2, h3⟩ := h
  exact ⟨gf, p, h1, h2, fun w2 g => h3 w2 (f.comp g)⟩
set_option maxRecDepth 100000 in
theorem bad_any {w : World} {e : Nat} (he : e ≠ 0) (n : List UInt8) :
    Calls Tryd.prog 30 #[.int .i64 (e : Int), .string ⟨n.toArray⟩] w (Told (e, n) w) := by
  have HE := Lib.hid he
  clear he
  go_enter Tryd.func30, Tryd.ntmps30
  go_wp2
  go_ret
  exact ⟨_, rfl, .inr ⟨HE.out, _, rfl, Blk.new _ _ _⟩, by (repeat (first | (with_reducible exact Fr.refl _ _) | (with_reducible assumption) | (with_reducible exact Fr.of_nil (by assumption)) | (with_reducible refine Fr.drew ?_) | (with_reducible refine Fr.drewN ?_ _) | (with_reducible refine Fr.alloc ?_ _) | (with_reducible refine Fr.set ?_ _ _ (by first | (intros; omega) | (simp; done) | (simp; omega))) | (with_reducible refine Fr.via ?_ (by assumption)) | (with_reducible refine Fr.comp ?_ (by assumption))))⟩
set_option maxRecDepth 100000 in
set_option maxHeartbeats 4000000 in
theorem twice_any {X : Nat → Prop} {w : World} {l : List (List UInt8)} {lv : Value} (hr : RowS X w lv l) (hl : ∀ x ∈ l, x.length ≤ maxLen) (hn : l.length ≤ 900000) :
    Calls Tryd.prog 27 #[lv] w (Told (twF l noF) w) := by
  obtain ⟨av, cv, rfl⟩ := RowC.shape hr
  obtain ⟨M, hM⟩ : ∃ M, l.length = M := ⟨_, rfl⟩
  obtain ⟨ms, hms⟩ : ∃ ms, w.heap.size = ms := ⟨_, rfl⟩
  have H0 := Lib.hid (And.intro (RowS.nocare hr) (And.intro hl (And.intro hM hms)))
  rw [hM] at hn ⊢
  clear hr hl hM
  have hmm := @run_makeMap Tryd.prog
  go_enter Tryd.func27, Tryd.ntmps27
  go_wp2_with fail
  try rw [hms]
  have HMd : Hid (SMap (w.alloc (.map #[] 0)) ms 0 (cnt [])) := Lib.hid (by
    have := SMap.made w
    rw [hms] at this
    exact this.congr (fun x _ => by simp [cnt]))
  clear hms hmm
  go_loopg [9] M (fun g iv wr => ∃ k : Nat, g = M - k ∧ k ≤ M ∧ iv = .int .i64 (k : Int) ∧ Hid (SMap wr ms k (cnt (l.take k)) ∧ Fr Nil w wr ∧ twF (l.take k) noF = noF))
  case atStart => exact ⟨0, rfl, by omega, rfl, Lib.hid ⟨by simpa using HMd.out, by (repeat (first | (with_reducible exact Fr.refl _ _) | (with_reducible assumption) | (with_reducible exact Fr.of_nil (by assumption)) | (with_reducible refine Fr.drew ?_) | (with_reducible refine Fr.drewN ?_ _) | (with_reducible refine Fr.alloc ?_ _) | (with_reducible refine Fr.set ?_ _ _ (by first | (intros; omega) | (simp; done) | (simp; omega))) | (with_reducible refine Fr.via ?_ (by assumption)) | (with_reducible refine Fr.comp ?_ (by assumption)))), rfl⟩⟩
  case round =>
    obtain ⟨k, rfl, hk, rfl, HS⟩ := hrel
    have i0 : (0 : Int) ≤ (k : Int) := by omega
    by_cases hlt : k < M
    · have hkL : k < l.length := by rw [H0.out.2.2.1]; exact hlt
      have wkk : IntKind.i64.wrap ((k : Int) + 1) = (k : Int) + 1 := by rw [IntKind.wrap_i64]; omega
      obtain ⟨b, off, rfl, _, p0⟩ := (RowS.fr H0.out.1 HS.out.2.1 (fun _ q => q.elim)).cell k hkL
      obtain ⟨x, ex⟩ : ∃ x, l[k] = x := ⟨_, rfl⟩
      rw [ex] at p0
      have i1 : (k : Int) < (M : Int) := by omega
      obtain ⟨F, hF⟩ : ∃ F, cnt (l.take k) = F := ⟨_, rfl⟩
      obtain ⟨c, hc⟩ : ∃ c : Nat, (l.take k).count x = c := ⟨_, rfl⟩
      have hFx : F x = (c : Int) := by rw [← hF, ← hc]; rfl
      have hcl : c ≤ 900000 := by
        have := List.count_le_length (a := x) (l := l.take k)
        rw [List.length_take] at this
        omega
      have HM : Hid (SMap wr ms k F) := Lib.hid (hF ▸ HS.out.1)
      have hsn : cnt (l.take (k + 1)) = fun y => if y = x then (c : Int) + 1 else F y := by
        funext y
        rw [List.take_succ_eq_append_getElem hkL, ex, cnt_snoc, hF, hFx]
      have hin : x ∈ l.take k ↔ c ≠ 0 := by
        have := List.count_pos_iff (a := x) (l := l.take k)
        rw [hc] at this
        rw [← this]
        omega
      have HX := Lib.hid (And.intro hsn (And.intro (show x.length ≤ maxLen from H0.out.2.1 x (ex ▸ List.getElem_mem hkL)) (And.intro ex hin)))
      have wc : IntKind.i64.wrap ((c : Int) + 1) = (c : Int) + 1 := by rw [IntKind.wrap_i64]; omega
      have hnew : ¬ ms < w.heap.size := by have := H0.out.2.2.2; omega
      clear ex hF hc hsn hin
      by_cases hz : c = 0
      · subst hz
        have wc : IntKind.i64.wrap ((0 : Int) + 1) = 1 := by decide
        have hFx : F x = 0 := hFx
        go_wp2_with (first
          | (at_lookup; refine wp_lookS _ Tryd.underlying62 rfl _ _ rfl ms k F rfl HM.out x rfl HX.out.2.1 ?_; rw [hFx])
          | (at_mapUpdate; refine wp_putS _ Tryd.underlying62 rfl _ _ _ rfl ms k F rfl HM.out (by omega) x 1 rfl rfl HX.out.2.1 (by decide) ?_; intro w5 hM5 f5 hz5; obtain ⟨G, hG, hGx⟩ : ∃ G : List UInt8 → Int, (fun y => if y = x then (1 : Int) else F y) = G ∧ G x = 1 := ⟨_, rfl, if_pos rfl⟩; rw [hG] at hM5; have H5 := Lib.hid (And.intro hM5 (And.intro f5 hG)); clear hM5 f5 hG hz5)
          | (at_lookup; refine wp_lookS _ Tryd.underlying62 rfl _ _ rfl ms (k + 1) G rfl H5.out.1 x rfl HX.out.2.1 ?_; rw [hGx])
          | fail)
        go_roundg (M - (k + 1))
        case rel => exact ⟨k + 1, rfl, by omega, by simp, Lib.hid ⟨by rw [HX.out.1]; have := H5.out.1; rw [← H5.out.2.2] at this; exact this, HS.out.2.1.trans H5.out.2.1 (fun b hb q => hnew (by have q' : b = ms := q; omega)), twice_go hkL HS.out.2.2 (by rw [HX.out.2.2.1]; intro z; exact HX.out.2.2.2.1 z rfl)⟩⟩
        case measure => omega
      · have d1 : (1 : Int) < (c : Int) + 1 := by omega
        have HB := Lib.hid (twice_hit hkL HS.out.2.2 (by rw [HX.out.2.2.1]; exact HX.out.2.2.2.2 hz))
        have hin9 := hz
        clear hz
        go_wp2_with (first
          | (at_lookup; refine wp_lookS _ Tryd.underlying62 rfl _ _ rfl ms k F rfl HM.out x rfl HX.out.2.1 ?_; rw [hFx])
          | (at_mapUpdate; refine wp_putS _ Tryd.underlying62 rfl _ _ _ rfl ms k F rfl HM.out (by omega) x ((c : Int) + 1) rfl rfl HX.out.2.1 (wf_small (by omega) (by omega)) ?_; intro w5 hM5 f5 hz5; obtain ⟨G, hG, hGx⟩ : ∃ G : List UInt8 → Int, (fun y => if y = x then ((c : Int) + 1) else F y) = G ∧ G x = (c : Int) + 1 := ⟨_, rfl, if_pos rfl⟩; rw [hG] at hM5; have H5 := Lib.hid (And.intro hM5 (And.intro f5 hG)); clear hM5 f5 hG hz5)
          | (at_lookup; refine wp_lookS _ Tryd.underlying62 rfl _ _ rfl ms (k + 1) G rfl H5.out.1 x rfl HX.out.2.1 ?_; rw [hGx])
          | (go_at_call 30; refine (bad_any (e := 5) (by decide) x).mono ?_; rintro e w6 ⟨v, rfl, he6, f6⟩; have H6 := Lib.hid (And.intro he6 f6); clear he6 f6)
          | fail)
        go_ret
        refine ⟨v, rfl, ?_, (HS.out.2.1.trans H5.out.2.1 (fun b hb q => hnew (by have q' : b = ms := q; omega))).comp H6.out.2⟩
        rw [HB.out, HX.out.2.2.1]
        exact H6.out.1
    · have i1 : ¬ (k : Int) < (M : Int) := by omega
      obtain rfl : M = k := by omega
      have HS1 : Hid (twF l noF = noF) := Lib.hid (by
        have h := HS.out.2.2
        rw [List.take_of_length_le (by rw [H0.out.2.2.1]; exact Nat.le_refl _)] at h
        exact h)
      go_wp2
      go_ret
      exact ⟨_, rfl, by rw [HS1.out]; exact ErrAt.none, HS.out.2.1⟩
set_option maxRecDepth 100000 in
set_option maxHeartbeats 4000000 in
theorem first_any {w : World} {b n : Nat} {vs : List Value} {ss : List FS} {t : TypeId} (hb : Blk w b vs.toArray t) (hv : vs.length = n) (hs : ss.length = n) (hf : ∀ i (h : i < vs.length) (h' : i < ss.length), FnAt w vs[i] ss[i]) (hn : n ≤ 1000) :
    Calls Tryd.prog 25 #[.slice (some ⟨b, 0, none⟩) n n] w (Told (firstF ss) w) := by
  have H0 := Lib.hid (And.intro hb (And.intro hv (And.intro hs hf)))
  have hblt := hb.lt
  clear hb hv hs hf
  go_enter Tryd.func25, Tryd.ntmps25
  go_wp2_with fail
  go_loopg [8] n (fun g iv wr => ∃ k : Nat, g = n - k ∧ k ≤ n ∧ iv = .int .i64 (k : Int) ∧ Hid (Fr Nil w wr ∧ firstF ss = firstF (ss.drop k)))
  case atStart => exact ⟨0, rfl, by omega, rfl, Lib.hid ⟨Fr.refl _ _, rfl⟩⟩
  case round =>
    obtain ⟨k, rfl, hk, rfl, HS⟩ := hrel
    have i0 : (0 : Int) ≤ (k : Int) := by omega
    by_cases hlt : k < n
    · have wkk : IntKind.i64.wrap ((k : Int) + 1) = (k : Int) + 1 := by rw [IntKind.wrap_i64]; omega
      have i1 : (k : Int) < (n : Int) := by omega
      have hkv : k < vs.length := by rw [H0.out.2.1]; exact hlt
      have hks : k < ss.length := by rw [H0.out.2.2.1]; exact hlt
      have p0 := (HS.out.1.blk H0.out.1 (fun q => q)).cell k
      have HD := Lib.hid (show firstF (ss.drop k) = thenF ss[k] (firstF (ss.drop (k + 1))) by rw [List.drop_eq_getElem_cons hks]; rfl)
      obtain ⟨s, hsk⟩ : ∃ s, ss[k] = s := ⟨_, rfl⟩
      rw [hsk] at HD
      obtain ⟨gf, p, hvk, hE, hA⟩ := (H0.out.2.2.2 k hkv hks).fr HS.out.1
      rw [hsk] at hA
      simp only [List.getElem?_toArray, List.getElem?_eq_getElem hkv] at p0
      rw [hvk] at p0
      have hE' := hE
      unfold Enters at hE'
      have HA := Lib.hid (hA wr (Fr.refl _ _))
      clear hA hsk hvk
      go_wp2_with fail
      go_at_fn gf
      refine HA.out.mono ?_
      rintro e w2 ⟨v, rfl, he2, f2⟩
      rcases he2 with ⟨hz, rfl⟩ | ⟨hz, bx, rfl, hbx⟩
      · have H2 := Lib.hid (And.intro hz f2)
        clear hz f2
        go_wp2
        go_roundg (n - (k + 1))
        case rel => exact ⟨k + 1, rfl, by omega, by simp, Lib.hid ⟨HS.out.1.comp H2.out.2, by rw [HS.out.2, HD.out]; exact if_pos H2.out.1⟩⟩
        case measure => omega
      · have H2 := Lib.hid (And.intro hz (And.intro hbx f2))
        clear hz hbx f2
        go_wp2
        go_ret
        exact ⟨_, rfl, .inr ⟨by rw [HS.out.2, HD.out]; unfold thenF; rw [if_neg H2.out.1]; exact H2.out.1, bx, rfl, by rw [HS.out.2, HD.out]; unfold thenF; rw [if_neg H2.out.1]; exact H2.out.2.1⟩, HS.out.1.comp H2.out.2.2⟩
    · have i1 : ¬ (k : Int) < (n : Int) := by omega
      obtain rfl : n = k := by omega
      have HS1 : Hid (firstF ss = noF) := Lib.hid (by
        rw [HS.out.2, List.drop_eq_nil_of_le (by rw [H0.out.2.2.1]; exact Nat.le_refl _)]
        rfl)
      go_wp2
      go_ret
      exact ⟨_, rfl, by rw [HS1.out]; exact ErrAt.none, HS.out.1⟩
end Go.Proofs.YtpjlibbdngnnnaaDoor
