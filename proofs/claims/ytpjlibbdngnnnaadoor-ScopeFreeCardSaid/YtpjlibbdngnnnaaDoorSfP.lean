/-
  Scope in plain words (layer 10): a bind more, behind those of a module without a fault. No conditions.
-/
import Derived.Test.YtpjlibbdngnnnaaDoorSpO
namespace Go.Proofs.YtpjlibbdngnnnaaDoor
set_option linter.unusedSimpArgs false
set_option linter.unusedVariables false

def q0N : List UInt8 := [113, 48]
def q1N : List UInt8 := [113, 49]
def varE (n : List UInt8) : TE := .mk 1 n false 0 [] [] [] []
def addB (m : TM) (b : TB) : TM := ⟨m.cons, m.binds ++ [b]⟩
theorem nmB_add (m : TM) (b : TB) : nmB (addB m b).binds = nmB m.binds ++ [b.name] := by
  unfold nmB addB
  simp
theorem free_add {m : TM} (h : (chkF m).1 = 0) (hq : q0N ∉ nmB m.binds) (p : List (List UInt8)) (e : TE) : chkF (addB m (.mk q0N p e)) = bodyF (consN m) p e (nmB m.binds ++ [q0N]) := by
  obtain ⟨h1, h2, h3, h4⟩ := (chk_zero m).1 h
  have hn : nmB (addB m (.mk q0N p e)).binds = nmB m.binds ++ [q0N] := nmB_add m _
  have hc : consN (addB m (.mk q0N p e)) = consN m := rfl
  have e1 := (twF_stays (consN m)).nf h1
  have hnd : (nmB m.binds ++ [q0N]).Nodup := by
    rw [List.nodup_append]
    exact ⟨h2, by simp, fun a ha b hb => by
      rw [List.mem_singleton] at hb
      rw [hb]
      exact fun z => hq (z ▸ ha)⟩
  have e2 := (twF_stays (nmB m.binds ++ [q0N])).nf ((twF_nodup _).2 hnd)
  have hm : mainN ∈ nmB m.binds ++ [q0N] := List.mem_append.2 (.inl h3)
  rw [chk_first, hn, hc, e1, e2, if_pos hm]
  show thenF noF (thenF noF (thenF noF (thenF _ noF))) = _
  rw [thenF_no, thenF_no, thenF_no, thenF_r _ (scB_stays (consN m) _ _).nf]
  have h5 : (scB (consN m) m.binds (nmB m.binds) noF).1 = 0 := by
    rw [scB_first, firstF_zero]
    intro a ha
    obtain ⟨b, hb, rfl⟩ := List.mem_map.1 ha
    exact h4 b hb
  have h6 := (scB_stays (consN m) m.binds (nmB m.binds ++ [q0N])).nf (scB_sub (consN m) m.binds (nmB m.binds) (nmB m.binds ++ [q0N]) noF (fun x hx => List.mem_append.2 (.inl hx)) h5)
  show scB (consN m) (m.binds ++ [.mk q0N p e]) (nmB m.binds ++ [q0N]) noF = _
  rw [scB_app, h6, bodyF_eq]
  rfl
theorem free1 {m : TM} (h : (chkF m).1 = 0) (hq : q0N ∉ nmB m.binds) (x : List UInt8) : chkF (addB m (.mk q0N [x] (varE x))) = (0, []) := by
  rw [free_add h hq, bodyF_eq, tw_one]
  unfold varE
  rw [scE, if_pos rfl, if_pos (by simp)]
  rfl
theorem free2 {m : TM} (h : (chkF m).1 = 0) (hq : q0N ∉ nmB m.binds) (x : List UInt8) : chkF (addB m (.mk q0N [x, x] (varE x))) = (5, x) := by
  rw [free_add h hq, bodyF_eq]
  have e : twF [x, x] noF = (5, x) := by
    unfold twF twG twG twG
    simp [fltS, noF]
  rw [e]
  exact (scE_stays (consN m) (varE x) _).1 _ (show (5 : Nat) ≠ 0 by decide)
theorem free3 {m : TM} (h : (chkF m).1 = 0) (hq : q0N ∉ nmB m.binds) : chkF (addB m (.mk q0N [] (varE q1N))) = if q1N ∈ nmB m.binds then (0, []) else (4, q1N) := by
  rw [free_add h hq, bodyF_eq]
  show scE (consN m) (varE q1N) (nmB m.binds ++ [q0N] ++ []) noF = _
  have hx : q1N ∈ nmB m.binds ++ [q0N] ++ [] ↔ q1N ∈ nmB m.binds := by simp [q1N, q0N]
  unfold varE
  rw [scE, if_pos rfl]
  by_cases hk : q1N ∈ nmB m.binds
  · rw [if_pos (hx.2 hk), if_pos hk]
    rfl
  · rw [if_neg (fun z => hk (hx.1 z)), if_neg hk, flt_no]
    rfl
theorem add_okB {m : TM} {n : List UInt8} {p : List (List UInt8)} {e : TE} (h : okB m.binds) (hn : n.length ≤ maxLen) (hp : ∀ x ∈ p, x.length ≤ maxLen) (he : okE e) : okB (addB m (.mk n p e)).binds := by
  have h1 : ∀ (l : List TB), okB l → okB (l ++ [.mk n p e]) := fun l => by
    induction l with
    | nil => exact fun _ => ⟨⟨hn, hp, he⟩, trivial⟩
    | cons b l ih =>
      cases b
      exact fun q => ⟨q.1, ih q.2⟩
  exact h1 _ h
theorem add_wsB {m : TM} {n : List UInt8} {p : List (List UInt8)} {e : TE} (h : wsB m.binds) (he : wsE e) : wsB (addB m (.mk n p e)).binds := by
  have h1 : ∀ (l : List TB), wsB l → wsB (l ++ [.mk n p e]) := fun l => by
    induction l with
    | nil => exact fun _ => ⟨he, trivial⟩
    | cons b l ih =>
      cases b
      exact fun q => ⟨q.1, ih q.2⟩
  exact h1 _ h
theorem var_okE {x : List UInt8} (h : x.length ≤ maxLen) : okE (varE x) := by
  unfold varE
  simp [okE, okK, okB, okA, h]
theorem var_wsE (x : List UInt8) : wsE (varE x) := by
  unfold varE
  simp [wsE, wsK, wsB, wsA]
theorem add_len {m : TM} {x : List UInt8} {p : List (List UInt8)} {n : List UInt8} (h : m.binds.length + wnB m.binds ≤ 4096) (hp : p.length ≤ 2) : (addB m (.mk n p (varE x))).binds.length + wnB (addB m (.mk n p (varE x))).binds ≤ 700000 := by
  show (m.binds ++ [_]).length + wnB (m.binds ++ [_]) ≤ 700000
  rw [List.length_append, wnB_app]
  have e : wnB [.mk n p (varE x)] ≤ 1000 := by
    unfold varE
    simp [wnB, wtE, wtK, wtB, wtA]
    omega
  simp only [List.length_singleton]
  omega
end Go.Proofs.YtpjlibbdngnnnaaDoor
