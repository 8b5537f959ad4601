/-
  Trees, rows and first faults in plain words (layers 8, 10), for seats that lack layer 12. No conditions.
-/
import Derived.Test.YtpjlibbdngnnnaaDoorPar17
import Derived.Test.YtpjlibbdngnnnaaDoorParW
namespace Go.Proofs.YtpjlibbdngnnnaaDoor
set_option linter.unusedSimpArgs false
set_option linter.unusedVariables false
open Go.RowKit

theorem RowS.cell {X : Nat → Prop} {w : World} {a : Option Addr} {n cap : Nat} {l : List (List UInt8)} (h : RowS X w (.slice a n cap) l) (i : Nat) (hi : i < l.length) : ∃ b off, a = some ⟨b, off, none⟩ ∧ ¬ X b ∧ w.cell? ⟨b, off + i, none⟩ = some (.string ⟨(l[i]).toArray⟩) := by
  obtain ⟨a1, cap1, e, h1, h2, hc⟩ := h
  cases e
  obtain ⟨b, off, rfl, hb, hl, hcell⟩ := hc i hi
  refine ⟨b, off, rfl, hb, ?_⟩
  have := hcell 0 (.string ⟨(l[i]).toArray⟩) (by simp [List.getD, hi])
  simpa using this
theorem RowS.len {X : Nat → Prop} {w : World} {v : Value} {l : List (List UInt8)} (h : RowS X w v l) : l.length ≤ maxLen := by
  obtain ⟨a1, cap1, e, h1, h2, hc⟩ := h
  omega
theorem RowS.nocare {X : Nat → Prop} {w : World} {v : Value} {l : List (List UInt8)} (h : RowS X w v l) : RowS (fun _ => False) w v l := RowC.mono h (by decide) (fun _ _ q => q.elim)
def nmB (l : List TB) : List (List UInt8) := l.map TB.name
mutual
def szE : TE → Nat
  | .mk _ _ _ _ _ ks bs al => 1 + szK ks + szB bs + szA al
def szK : List TE → Nat
  | [] => 0
  | e :: l => szE e + szK l
def szB : List TB → Nat
  | [] => 0
  | .mk _ _ e :: l => szE e + szB l
def szA : List TA → Nat
  | [] => 0
  | .mk _ _ _ _ _ e :: l => szE e + szA l
end
mutual
/-- All names are short enough for memory. -/
def okE : TE → Prop
  | .mk _ n _ _ ps ks bs al => n.length ≤ maxLen ∧ (∀ x ∈ ps, x.length ≤ maxLen) ∧ okK ks ∧ okB bs ∧ okA al
def okK : List TE → Prop
  | [] => True
  | e :: l => okE e ∧ okK l
def okB : List TB → Prop
  | [] => True
  | .mk n ps e :: l => (n.length ≤ maxLen ∧ (∀ x ∈ ps, x.length ≤ maxLen) ∧ okE e) ∧ okB l
def okA : List TA → Prop
  | [] => True
  | .mk _ n _ _ ps e :: l => (n.length ≤ maxLen ∧ (∀ x ∈ ps, x.length ≤ maxLen) ∧ okE e) ∧ okA l
end
theorem nmB_le (bs : List TB) : (nmB bs).length ≤ wtB bs := by
  induction bs with
  | nil => exact Nat.le_refl _
  | cons x l ih =>
    obtain ⟨n, p, e⟩ := x
    have e1 : wtB (.mk n p e :: l) = (1 + p.length + wtE e) + wtB l := rfl
    have e2 : (nmB (.mk n p e :: l)).length = (nmB l).length + 1 := by simp [nmB]
    omega
/-- The cells of one, written out. -/
def FormE (c : List Value) : Prop := ∃ (k : Nat) (nm : ByteArray) (fl : Bool) (bi : Nat) (a0 : Option Addr) (n0 c0 : Nat) (a1 : Option Addr) (n1 c1 : Nat) (a2 : Option Addr) (n2 c2 : Nat) (a3 : Option Addr) (n3 c3 : Nat), c = [.int .i64 (k : Int), .string nm, .bool fl, .int .u64 (bi : Int), .slice a0 n0 c0, .slice a1 n1 c1, .slice a2 n2 c2, .slice a3 n3 c3]
/-- The cells of one, written out. -/
def FormB (c : List Value) : Prop := ∃ (bn : ByteArray) (pa : Option Addr) (pn pc : Nat) (k : Nat) (nm : ByteArray) (fl : Bool) (bi : Nat) (a0 : Option Addr) (n0 c0 : Nat) (a1 : Option Addr) (n1 c1 : Nat) (a2 : Option Addr) (n2 c2 : Nat) (a3 : Option Addr) (n3 c3 : Nat), c = [.string bn, .slice pa pn pc, .int .i64 (k : Int), .string nm, .bool fl, .int .u64 (bi : Int), .slice a0 n0 c0, .slice a1 n1 c1, .slice a2 n2 c2, .slice a3 n3 c3]
/-- The cells of one, written out. -/
def FormA (c : List Value) : Prop := ∃ (tk : Nat) (tn : ByteArray) (tf : Bool) (tb : Nat) (pa : Option Addr) (pn pc : Nat) (k : Nat) (nm : ByteArray) (fl : Bool) (bi : Nat) (a0 : Option Addr) (n0 c0 : Nat) (a1 : Option Addr) (n1 c1 : Nat) (a2 : Option Addr) (n2 c2 : Nat) (a3 : Option Addr) (n3 c3 : Nat), c = [.int .i64 (tk : Int), .string tn, .bool tf, .int .u64 (tb : Int), .slice pa pn pc, .int .i64 (k : Int), .string nm, .bool fl, .int .u64 (bi : Int), .slice a0 n0 c0, .slice a1 n1 c1, .slice a2 n2 c2, .slice a3 n3 c3]
theorem EAt.formE {X : Nat → Prop} {w : World} {cs : List Value} {t : TE} (h : EAt X w cs t) : FormE cs := by
  obtain ⟨k, nm, fl, bi, a0, n0, c0, a1, n1, c1, a2, n2, c2, a3, n3, c3, rfl⟩ := h.form
  exact ⟨k, nm, fl, bi, a0, n0, c0, a1, n1, c1, a2, n2, c2, a3, n3, c3, rfl⟩
theorem BAt.formB {X : Nat → Prop} {w : World} {c : List Value} {t : TB} (h : BAt X w c t) : FormB c := by
  obtain ⟨pn, cs, rfl, h1, h2⟩ := h
  obtain ⟨pa, pc, rfl⟩ := RowC.shape h1
  obtain ⟨k, nm, fl, bi, a0, n0, c0, a1, n1, c1, a2, n2, c2, a3, n3, c3, rfl⟩ := h2.form
  exact ⟨_, _, _, _, _, _, _, _, _, _, _, _, _, _, _, _, _, _, _, _, rfl⟩
theorem AAt.formA {X : Nat → Prop} {w : World} {c : List Value} {t : TA} (h : AAt X w c t) : FormA c := by
  obtain ⟨pn, cs, rfl, h1, h2⟩ := h
  obtain ⟨pa, pc, rfl⟩ := RowC.shape h1
  obtain ⟨k, nm, fl, bi, a0, n0, c0, a1, n1, c1, a2, n2, c2, a3, n3, c3, rfl⟩ := h2.form
  exact ⟨_, _, _, _, _, _, _, _, _, _, _, _, _, _, _, _, _, _, _, _, _, _, _, rfl⟩
/-- How often names are bound in binds, but for their own. -/
def wnB : List TB → Nat
  | [] => 0
  | .mk _ p e :: l => p.length + wtE e + wnB l
theorem wnB_eq : ∀ l : List TB, wtB l = wnB l + l.length
  | [] => rfl
  | .mk _ p e :: l => by
    have := wnB_eq l
    unfold wtB wnB
    rw [List.length_cons]
    omega
theorem wtK_take {ks : List TE} {i : Nat} (h : i < ks.length) : wtK (ks.take (i + 1)) = wtK (ks.take i) + wtE ks[i] := by
  rw [List.take_succ_eq_append_getElem h, wtK_app]
  rfl
theorem wtK_take_le (ks : List TE) (i : Nat) : wtK (ks.take i) ≤ wtK ks := by
  conv => rhs; rw [← List.take_append_drop i ks, wtK_app]
  omega
theorem wnB_app (a b : List TB) : wnB (a ++ b) = wnB a + wnB b := by
  induction a with
  | nil => simp [wnB]
  | cons x l ih => obtain ⟨n, p, e⟩ := x; simp [wnB, ih]; omega
theorem wnB_take {bs : List TB} {i : Nat} (h : i < bs.length) : wnB (bs.take (i + 1)) = wnB (bs.take i) + (bs[i].params.length + wtE bs[i].body) := by
  rw [List.take_succ_eq_append_getElem h, wnB_app]
  obtain ⟨n, p, e⟩ := bs[i]
  rfl
theorem wnB_take_le (ks : List TB) (i : Nat) : wnB (ks.take i) ≤ wnB ks := by
  conv => rhs; rw [← List.take_append_drop i ks, wnB_app]
  omega
theorem wtA_take {al : List TA} {i : Nat} (h : i < al.length) : wtA (al.take (i + 1)) = wtA (al.take i) + (1 + al[i].names.length + wtE al[i].body) := by
  rw [List.take_succ_eq_append_getElem h, wtA_app]
  obtain ⟨k, n, f, b, p, e⟩ := al[i]
  rfl
theorem wtA_take_le (ks : List TA) (i : Nat) : wtA (ks.take i) ≤ wtA ks := by
  conv => rhs; rw [← List.take_append_drop i ks, wtA_app]
  omega
theorem okK_mem : ∀ {ks : List TE} {e : TE}, okK ks → e ∈ ks → okE e
  | [], _, _, h => by simp at h
  | x :: l, e, h, hm => by
    rcases List.mem_cons.1 hm with q | q
    · exact q ▸ h.1
    · exact okK_mem h.2 q
theorem okB_mem : ∀ {bs : List TB} {b : TB}, okB bs → b ∈ bs → b.name.length ≤ maxLen ∧ (∀ x ∈ b.params, x.length ≤ maxLen) ∧ okE b.body
  | [], _, _, h => by simp at h
  | .mk n p e :: l, b, h, hm => by
    rcases List.mem_cons.1 hm with q | q
    · exact q ▸ h.1
    · exact okB_mem h.2 q
theorem okA_all : ∀ {al : List TA} {a : TA}, okA al → a ∈ al → a.name.length ≤ maxLen ∧ (∀ x ∈ a.names, x.length ≤ maxLen) ∧ okE a.body
  | [], _, _, h => by simp at h
  | .mk k n f b p e :: l, a, h, hm => by
    rcases List.mem_cons.1 hm with q | q
    · exact q ▸ h.1
    · exact okA_all h.2 q
/-- The expression of an expression's own cells. -/
theorem BAt.parts {X : Nat → Prop} {w : World} {bn : ByteArray} {pa : Option Addr} {pn pc : Nat} {c : List Value} {t : TB} (h : BAt X w (.string bn :: .slice pa pn pc :: c) t) : RowS X w (.slice pa pn pc) t.params ∧ EAt X w c t.body ∧ bn = ⟨t.name.toArray⟩ := by
  obtain ⟨q1, q2, e, h1, h2⟩ := h
  injection e with e1 e
  injection e with e2 e
  subst e2 e
  injection e1 with e1
  exact ⟨h1, h2, e1⟩
theorem AAt.parts {X : Nat → Prop} {w : World} {tk : Nat} {tn : ByteArray} {tf : Bool} {tb : Nat} {pa : Option Addr} {pn pc : Nat} {c : List Value} {t : TA} (h : AAt X w (.int .i64 (tk : Int) :: .string tn :: .bool tf :: .int .u64 (tb : Int) :: .slice pa pn pc :: c) t) : RowS X w (.slice pa pn pc) t.names ∧ EAt X w c t.body ∧ tn = ⟨t.name.toArray⟩ ∧ tk = t.kind := by
  obtain ⟨q1, q2, e, h1, h2⟩ := h
  injection e with e1 e
  injection e with e3 e
  injection e with e4 e
  injection e with e5 e
  injection e with e2 e
  subst e2 e
  injection e3 with e3
  injection e1 with e0 e1
  exact ⟨h1, h2, e3, by omega⟩
theorem RowS.single {X : Nat → Prop} {w : World} {b : Nat} {x : List UInt8} {t : TypeId} (h : Blk w b #[.string ⟨x.toArray⟩] t) (hX : ¬ X b) : RowS X w (.slice (some ⟨b, 0, none⟩) 1 1) [x] := by
  have := RowC.one (cs := [.string ⟨x.toArray⟩]) (size := 1) h rfl hX
  exact this.congr (fun i hi => by
    have e : i = 0 := by omega
    subst e
    rfl)
theorem lexG_texts (B : Nat) (f : Nat) (acc : List TokV) (l : List UInt8) (ln : Nat) (hB : l.length ≤ B) (ha : ∀ t ∈ acc, t.text.length ≤ B) : ∀ t ∈ (lexG f acc l ln).toks, t.text.length ≤ B := by
  induction f generalizing acc l ln with
  | zero => exact ha
  | succ f ih =>
    by_cases hl : l = []
    · subst hl; rw [lexG_end]; exact ha
    · by_cases he : (oneF l ln).2 = 0
      · by_cases hf : acc.length = 4096
        · rw [lexG_full hl he hf]
          exact fun t ht => by simp at ht
        · rw [lexG_more hl he hf]
          have h1 := skipF_len false (l.drop (oneF l ln).1.text.length) ln
          rw [List.length_drop] at h1
          have h2 := (oneF_pre l ln he).1.length_le
          refine ih _ _ _ (by omega) (fun t ht => ?_)
          rcases List.mem_append.1 ht with q | q
          · exact ha t q
          · obtain rfl : t = (oneF l ln).1 := by simpa using q
            omega
      · rw [lexG_bad hl he]
        exact fun t ht => by simp at ht
theorem lexF_texts (s : List UInt8) : ∀ t ∈ (lexF s).toks, t.text.length ≤ s.length := by
  unfold lexF
  exact lexG_texts s.length _ [] _ _ (skipF_len _ _ _) (fun t ht => by simp at ht)
mutual
/-- Parts that a tree has, by its kind. -/
def wsE : TE → Prop
  | .mk k _ _ _ ps ks bs al => ((k = 1 → ks = []) ∧ (k ≠ 7 → al = []) ∧ (k = 8 → ps ≠ [])) ∧ wsK ks ∧ wsB bs ∧ wsA al
def wsK : List TE → Prop
  | [] => True
  | e :: l => wsE e ∧ wsK l
def wsB : List TB → Prop
  | [] => True
  | .mk _ _ e :: l => wsE e ∧ wsB l
def wsA : List TA → Prop
  | [] => True
  | .mk _ _ _ _ _ e :: l => wsE e ∧ wsA l
end
theorem wsK_mem : ∀ {ks : List TE} {e : TE}, wsK ks → e ∈ ks → wsE e
  | [], _, _, h => by simp at h
  | x :: l, e, h, hm => by
    rcases List.mem_cons.1 hm with q | q
    · exact q ▸ h.1
    · exact wsK_mem h.2 q
theorem wsB_mem : ∀ {bs : List TB} {b : TB}, wsB bs → b ∈ bs → wsE b.body
  | [], _, _, h => by simp at h
  | .mk n p e :: l, b, h, hm => by
    rcases List.mem_cons.1 hm with q | q
    · exact q ▸ h.1
    · exact wsB_mem h.2 q
theorem wsA_mem : ∀ {bs : List TA} {b : TA}, wsA bs → b ∈ bs → wsE b.body
  | [], _, _, h => by simp at h
  | .mk k n f bb p e :: l, b, h, hm => by
    rcases List.mem_cons.1 hm with q | q
    · exact q ▸ h.1
    · exact wsA_mem h.2 q
section
variable {L : List TokV}
theorem isT_le {B : Nat} (hL : ∀ t ∈ L, t.text.length ≤ B) {k : Int} {n : List UInt8} (h : isT L k n) : n.length ≤ B := by
  obtain ⟨t, ht, _, rfl⟩ := h
  exact hL t ht
mutual
theorem wf_ok {B : Nat} (hM : B ≤ maxLen) (hL : ∀ t ∈ L, t.text.length ≤ B) : ∀ e : TE, wfE L e → okE e ∧ wsE e
  | .mk k n fl bi ps ks bs al, h => by
    unfold wfE at h
    obtain ⟨hs, hk, hb, ha⟩ := h
    have ik := wf_okK hM hL ks hk
    have ib := wf_okB hM hL bs hb
    have ia := wf_okA hM hL al ha
    have hz : ([] : List UInt8).length ≤ maxLen := Nat.zero_le _
    have hp0 : ∀ x ∈ ([] : List (List UInt8)), x.length ≤ maxLen := fun x hx => by simp at hx
    unfold okE wsE
    unfold shE at hs
    rcases hs with ⟨rfl, q, _, _, rfl, rfl, rfl, rfl⟩ | ⟨rfl, q, _, _, rfl, rfl, rfl⟩ | ⟨rfl, rfl, _, rfl, rfl, rfl, rfl⟩ | ⟨rfl, rfl, _, _, _, rfl, rfl, rfl⟩ | ⟨rfl, q, _, _, rfl, rfl, rfl⟩ | ⟨rfl, rfl, _, _, _, _, rfl, rfl⟩ | ⟨rfl, rfl, _, _, _, rfl, rfl⟩ | ⟨rfl, rfl, _, _, _, qn, q, rfl, rfl⟩
    · exact ⟨⟨Nat.le_trans (isT_le hL q) hM, hp0, ik.1, ib.1, ia.1⟩, ⟨by first | (intro _; rfl) | (intro z; omega) | (intro _; assumption) | (intro z; exact absurd z (by decide)), by first | (intro _; rfl) | (intro z; omega) | (intro _; assumption) | (intro z; exact absurd z (by decide)), by first | (intro _; rfl) | (intro z; omega) | (intro _; assumption) | (intro z; exact absurd z (by decide))⟩, ik.2, ib.2, ia.2⟩
    · exact ⟨⟨Nat.le_trans (isT_le hL q) hM, hp0, ik.1, ib.1, ia.1⟩, ⟨by first | (intro _; rfl) | (intro z; omega) | (intro _; assumption) | (intro z; exact absurd z (by decide)), by first | (intro _; rfl) | (intro z; omega) | (intro _; assumption) | (intro z; exact absurd z (by decide)), by first | (intro _; rfl) | (intro z; omega) | (intro _; assumption) | (intro z; exact absurd z (by decide))⟩, ik.2, ib.2, ia.2⟩
    · exact ⟨⟨hz, hp0, ik.1, ib.1, ia.1⟩, ⟨by first | (intro _; rfl) | (intro z; omega) | (intro _; assumption) | (intro z; exact absurd z (by decide)), by first | (intro _; rfl) | (intro z; omega) | (intro _; assumption) | (intro z; exact absurd z (by decide)), by first | (intro _; rfl) | (intro z; omega) | (intro _; assumption) | (intro z; exact absurd z (by decide))⟩, ik.2, ib.2, ia.2⟩
    · exact ⟨⟨hz, hp0, ik.1, ib.1, ia.1⟩, ⟨by first | (intro _; rfl) | (intro z; omega) | (intro _; assumption) | (intro z; exact absurd z (by decide)), by first | (intro _; rfl) | (intro z; omega) | (intro _; assumption) | (intro z; exact absurd z (by decide)), by first | (intro _; rfl) | (intro z; omega) | (intro _; assumption) | (intro z; exact absurd z (by decide))⟩, ik.2, ib.2, ia.2⟩
    · refine ⟨⟨?_, hp0, ik.1, ib.1, ia.1⟩, ⟨by first | (intro _; rfl) | (intro z; omega) | (intro _; assumption) | (intro z; exact absurd z (by decide)), by first | (intro _; rfl) | (intro z; omega) | (intro _; assumption) | (intro z; exact absurd z (by decide)), by first | (intro _; rfl) | (intro z; omega) | (intro _; assumption) | (intro z; exact absurd z (by decide))⟩, ik.2, ib.2, ia.2⟩
      rcases q with q | q
      · exact Nat.le_trans (isT_le hL q) hM
      · exact Nat.le_trans (isT_le hL q.1) hM
    · exact ⟨⟨hz, hp0, ik.1, ib.1, ia.1⟩, ⟨by first | (intro _; rfl) | (intro z; omega) | (intro _; assumption) | (intro z; exact absurd z (by decide)), by first | (intro _; rfl) | (intro z; omega) | (intro _; assumption) | (intro z; exact absurd z (by decide)), by first | (intro _; rfl) | (intro z; omega) | (intro _; assumption) | (intro z; exact absurd z (by decide))⟩, ik.2, ib.2, ia.2⟩
    · exact ⟨⟨hz, hp0, ik.1, ib.1, ia.1⟩, ⟨by first | (intro _; rfl) | (intro z; omega) | (intro _; assumption) | (intro z; exact absurd z (by decide)), by first | (intro _; rfl) | (intro z; omega) | (intro _; assumption) | (intro z; exact absurd z (by decide)), by first | (intro _; rfl) | (intro z; omega) | (intro _; assumption) | (intro z; exact absurd z (by decide))⟩, ik.2, ib.2, ia.2⟩
    · exact ⟨⟨hz, fun x hx => Nat.le_trans (isT_le hL (q x hx)) hM, ik.1, ib.1, ia.1⟩, ⟨by first | (intro _; rfl) | (intro z; omega) | (intro _; assumption) | (intro z; exact absurd z (by decide)), by first | (intro _; rfl) | (intro z; omega) | (intro _; assumption) | (intro z; exact absurd z (by decide)), by first | (intro _; rfl) | (intro z; omega) | (intro _; assumption) | (intro z; exact absurd z (by decide))⟩, ik.2, ib.2, ia.2⟩
theorem wf_okK {B : Nat} (hM : B ≤ maxLen) (hL : ∀ t ∈ L, t.text.length ≤ B) : ∀ l : List TE, wfK L l → okK l ∧ wsK l
  | [], _ => ⟨trivial, trivial⟩
  | e :: l, h => by
    unfold wfK at h
    have h1 := wf_ok hM hL e h.1
    have h2 := wf_okK hM hL l h.2
    exact ⟨⟨h1.1, h2.1⟩, h1.2, h2.2⟩
theorem wf_okB {B : Nat} (hM : B ≤ maxLen) (hL : ∀ t ∈ L, t.text.length ≤ B) : ∀ l : List TB, wfB L l → okB l ∧ wsB l
  | [], _ => ⟨trivial, trivial⟩
  | .mk n p e :: l, h => by
    unfold wfB at h
    have h1 := wf_ok hM hL e h.1.2.2
    have h2 := wf_okB hM hL l h.2
    exact ⟨⟨⟨Nat.le_trans (isT_le hL h.1.1) hM, fun x hx => Nat.le_trans (isT_le hL (h.1.2.1 x hx)) hM, h1.1⟩, h2.1⟩, h1.2, h2.2⟩
theorem wf_okA {B : Nat} (hM : B ≤ maxLen) (hL : ∀ t ∈ L, t.text.length ≤ B) : ∀ l : List TA, wfA L l → okA l ∧ wsA l
  | [], _ => ⟨trivial, trivial⟩
  | .mk k n f b p e :: l, h => by
    unfold wfA at h
    have h1 := wf_ok hM hL e h.1.2
    have h2 := wf_okA hM hL l h.2
    refine ⟨⟨⟨?_, ?_, h1.1⟩, h2.1⟩, h1.2, h2.2⟩
    · rcases h.1.1 with q | q | q
      · exact Nat.le_trans (isT_le hL q.2.1) hM
      · rw [q.2.1]; exact Nat.zero_le _
      · exact Nat.le_trans (isT_le hL q.2.1) hM
    · rcases h.1.1 with q | q | q
      · exact fun x hx => Nat.le_trans (isT_le hL (q.2.2.2.2 x hx)) hM
      · rw [q.2.2.2]; exact fun x hx => by simp at hx
      · rw [q.2.2.2.2]; exact fun x hx => by simp at hx
end
end
theorem wtB_mem : ∀ {bs : List TB} {b : TB}, b ∈ bs → wtE b.body + b.params.length ≤ wtB bs
  | .mk n p e :: l, b, hm => by
    unfold wtB
    rcases List.mem_cons.1 hm with q | q
    · subst q
      show wtE e + p.length ≤ _
      omega
    · have := wtB_mem q
      omega
/-- What a source of at most so many bytes tells. -/
structure SrcOk (m : TM) : Prop where
  len : m.binds.length + wnB m.binds ≤ 4096
  cons : m.cons.length ≤ 100000
  ok : okB m.binds
  ws : wsB m.binds
  cn : ∀ d ∈ m.cons, d.1.length ≤ maxLen
/-- Binds as they lie in a row. -/
def BindsAt (X : Nat → Prop) (w : World) (v : Value) (bs : List TB) : Prop := ∃ cs, RowC X w v bs.length 10 cs ∧ ∀ i (h : i < bs.length), BAt X w (cs i) bs[i]
theorem BindsAt.fr {X S : Nat → Prop} {w w' : World} {v : Value} {bs : List TB} (h : BindsAt X w v bs) (f : Fr S w w') (hs : ∀ b, S b → X b) : BindsAt X w' v bs := by
  obtain ⟨cs, h1, h2⟩ := h
  exact ⟨cs, h1.fr f hs, fun i hi => lawB.fr (h2 i hi) f hs⟩
theorem BindsAt.nocare {X : Nat → Prop} {w : World} {v : Value} {bs : List TB} (h : BindsAt X w v bs) : BindsAt (fun _ => False) w v bs := by
  obtain ⟨cs, h1, h2⟩ := h
  exact ⟨cs, h1.mono (by decide) (fun _ _ q => q.elim), fun i hi => lawB.mono (h2 i hi) (fun _ _ q => q.elim)⟩
theorem BindsAt.shape {X : Nat → Prop} {w : World} {v : Value} {bs : List TB} (h : BindsAt X w v bs) : ∃ a cap, v = .slice a bs.length cap := by
  obtain ⟨cs, h1, h2⟩ := h
  exact h1.shape
/-- A bind of a row, cell by cell. -/
theorem BindsAt.at {w : World} {a : Option Addr} {n cap : Nat} {bs : List TB} (h : BindsAt (fun _ => False) w (.slice a n cap) bs) {i : Nat} (hi : i < bs.length) : ∃ (b off : Nat) (pa : Option Addr) (pn pc : Nat) (c : List Value), a = some ⟨b, off, none⟩ ∧ b < w.heap.size ∧ FormE c ∧ RowS (fun _ => False) w (.slice pa pn pc) bs[i].params ∧ EAt (fun _ => False) w c bs[i].body ∧ pn = bs[i].params.length ∧
    ∀ w', Fr Nil w w' → w'.cell? ⟨b, off + i * 10, none⟩ = some (.string ⟨bs[i].name.toArray⟩) ∧ w'.cell? ⟨b, off + i * 10 + 1, none⟩ = some (.slice pa pn pc) ∧ ∀ j u, c[j]? = some u → w'.cell? ⟨b, off + i * 10 + 2 + j, none⟩ = some u := by
  obtain ⟨cs, h1, h2⟩ := h
  obtain ⟨a1, cap1, e, _, _, hc0⟩ := h1
  cases e
  obtain ⟨b, off, rfl, _, hl, hc⟩ := hc0 i hi
  obtain ⟨pn, c, ec, hr, he⟩ := h2 i hi
  obtain ⟨pa, pc, rfl⟩ := RowC.shape hr
  rw [ec] at hc
  refine ⟨b, off, pa, _, pc, c, rfl, World.block_lt_of_cell? _ _ (hc 0 _ rfl), he.formE, hr, he, rfl, fun w' f => ⟨f.cell (hc 0 _ rfl) (fun q => q), f.cell (hc 1 _ rfl) (fun q => q), fun j u hj => ?_⟩⟩
  have := hc (j + 2) u (by simpa using hj)
  rw [show off + i * 10 + (j + 2) = off + i * 10 + 2 + j by omega] at this
  exact f.cell this (fun q => q)
theorem RowS.of_blk {X : Nat → Prop} {w : World} {b : Nat} {l : List (List UInt8)} {t : TypeId} (h : Blk w b (strC l).toArray t) (hl : l.length ≤ maxLen) (hX : ¬ X b) : RowS X w (.slice (some ⟨b, 0, none⟩) l.length l.length) l :=
  ⟨_, _, rfl, Nat.le_refl _, hl, fun i hi => ⟨b, 0, rfl, hX, rfl, fun j u hj => by
    cases j with
    | succ j => simp at hj
    | zero =>
      simp at hj
      subst hj
      rw [h.cell]
      simp [strC, hi]⟩⟩
/-- The first fault: its number (0: none), its name. -/
abbrev FS := Nat × List UInt8
def fltS (s : FS) (e : Nat) (n : List UInt8) : FS := if s.1 = 0 then (e, n) else s
/-- Each that is an earlier one's: p came before. -/
def twG : List (List UInt8) → List (List UInt8) → FS → FS
  | _, [], s => s
  | p, x :: l, s => twG (p ++ [x]) l (if x ∈ p then fltS s 5 x else s)
def twF (l : List (List UInt8)) (s : FS) : FS := twG [] l s
theorem twG_snoc : ∀ (l p : List (List UInt8)) (x : List UInt8) (s : FS), twG p (l ++ [x]) s = if x ∈ p ++ l then fltS (twG p l s) 5 x else twG p l s
  | [], p, x, s => by simp [twG]
  | y :: l, p, x, s => by
    show twG (p ++ [y]) (l ++ [x]) _ = _
    rw [twG_snoc l]
    simp only [List.append_assoc, List.singleton_append]
    rfl
theorem twF_take {l : List (List UInt8)} {k : Nat} (h : k < l.length) (s : FS) : twF (l.take (k + 1)) s = if l[k] ∈ l.take k then fltS (twF (l.take k) s) 5 l[k] else twF (l.take k) s := by
  unfold twF
  rw [List.take_succ_eq_append_getElem h, twG_snoc, List.nil_append]
section
variable (cons : List (List UInt8))
def conS (n : List UInt8) (s : FS) : FS := if n ∈ cons then s else fltS s 4 n
mutual
def scE : TE → List (List UInt8) → FS → FS
  | .mk k n _ _ ps ks bs al, i, s =>
    if k = 1 then scA al i (scK ks i (if n ∈ i then s else fltS s 4 n))
    else if k = 2 then scA al i (scK ks i (conS cons n s))
    else if k = 6 then scA al (i ++ nmB bs) (scK ks (i ++ nmB bs) (scB bs (i ++ nmB bs) (twF (nmB bs) s)))
    else if k = 8 then scA al (i ++ ps) (scK ks (i ++ ps) (twF ps s))
    else scA al i (scK ks i s)
def scK : List TE → List (List UInt8) → FS → FS
  | [], _, s => s
  | e :: l, i, s => scK l i (scE e i s)
def scB : List TB → List (List UInt8) → FS → FS
  | [], _, s => s
  | .mk _ p e :: l, i, s => scB l i (scE e (i ++ p) (twF p s))
def scA : List TA → List (List UInt8) → FS → FS
  | [], _, s => s
  | .mk k n _ _ ns e :: l, i, s => scA l i (if k = 0 then scE e (i ++ ns) (twF ns (conS cons n s)) else if k = 2 then scE e (i ++ [n]) s else scE e i s)
end
theorem scK_app : ∀ (a b : List TE) (i : List (List UInt8)) (s : FS), scK cons (a ++ b) i s = scK cons b i (scK cons a i s)
  | [], _, _, _ => rfl
  | e :: l, b, i, s => scK_app l b i _
theorem scB_app : ∀ (a b : List TB) (i : List (List UInt8)) (s : FS), scB cons (a ++ b) i s = scB cons b i (scB cons a i s)
  | [], _, _, _ => rfl
  | .mk _ p e :: l, b, i, s => scB_app l b i _
theorem scA_app : ∀ (a b : List TA) (i : List (List UInt8)) (s : FS), scA cons (a ++ b) i s = scA cons b i (scA cons a i s)
  | [], _, _, _ => rfl
  | .mk k n _ _ ns e :: l, b, i, s => scA_app l b i _
theorem scK_take {ks : List TE} {j : Nat} (h : j < ks.length) (i : List (List UInt8)) (s : FS) : scK cons (ks.take (j + 1)) i s = scE cons ks[j] i (scK cons (ks.take j) i s) := by
  rw [List.take_succ_eq_append_getElem h, scK_app]
  rfl
theorem scB_take {bs : List TB} {j : Nat} (h : j < bs.length) (i : List (List UInt8)) (s : FS) : scB cons (bs.take (j + 1)) i s = scE cons bs[j].body (i ++ bs[j].params) (twF bs[j].params (scB cons (bs.take j) i s)) := by
  rw [List.take_succ_eq_append_getElem h, scB_app]
  obtain ⟨n, p, e⟩ := bs[j]
  rfl
/-- What one alternative does. -/
def scA1 (a : TA) (i : List (List UInt8)) (s : FS) : FS := if a.kind = 0 then scE cons a.body (i ++ a.names) (twF a.names (conS cons a.name s)) else if a.kind = 2 then scE cons a.body (i ++ [a.name]) s else scE cons a.body i s
theorem scA_take {al : List TA} {j : Nat} (h : j < al.length) (i : List (List UInt8)) (s : FS) : scA cons (al.take (j + 1)) i s = scA1 cons al[j] i (scA cons (al.take j) i s) := by
  rw [List.take_succ_eq_append_getElem h, scA_app]
  obtain ⟨k, n, f, b, ns, e⟩ := al[j]
  rfl
end
def falseN : List UInt8 := [70, 97, 108, 115, 101]
def trueN : List UInt8 := [84, 114, 117, 101]
def nothN : List UInt8 := [78, 111, 116, 104, 105, 110, 103]
def justN : List UInt8 := [74, 117, 115, 116]
def mainN : List UInt8 := [109, 97, 105, 110]
/-- The constructors' names. -/
def consN (m : TM) : List (List UInt8) := [falseN, trueN, nothN, justN] ++ m.cons.map (·.1)
/-- The first fault of a module. -/
def chkF (m : TM) : FS :=
  scB (consN m) m.binds (nmB m.binds) (if mainN ∈ nmB m.binds then twF (nmB m.binds) (twF (consN m) (0, [])) else fltS (twF (nmB m.binds) (twF (consN m) (0, []))) 10 mainN)
-- no fault
theorem flt_bad {s : FS} {e : Nat} {n : List UInt8} (he : e ≠ 0) : (fltS s e n).1 ≠ 0 := by
  unfold fltS
  split
  · exact he
  · rename_i h; exact h
theorem twG_zero : ∀ (l p : List (List UInt8)) (s : FS), (twG p l s).1 = 0 → s.1 = 0
  | [], _, s, h => h
  | x :: l, p, s, h => by
    have h1 := twG_zero l _ _ h
    split at h1
    · exact absurd h1 (flt_bad (by decide))
    · exact h1
theorem twF_zero {l : List (List UInt8)} {s : FS} (h : (twF l s).1 = 0) : s.1 = 0 := twG_zero l [] s h
section
variable {cons : List (List UInt8)}
theorem conS_zero {n : List UInt8} {s : FS} (h : (conS cons n s).1 = 0) : s.1 = 0 := by
  unfold conS at h
  split at h
  · exact h
  · exact absurd h (flt_bad (by decide))
mutual
theorem scE_zero : ∀ (e : TE) (i : List (List UInt8)) (s : FS), (scE cons e i s).1 = 0 → s.1 = 0
  | .mk k n _ _ ps ks bs al, i, s, h => by
    unfold scE at h
    split at h
    · have h := scK_zero ks i _ (scA_zero al i _ h)
      split at h
      · exact h
      · exact absurd h (flt_bad (by decide))
    · split at h
      · exact conS_zero (scK_zero ks i _ (scA_zero al i _ h))
      · split at h
        · exact twF_zero (scB_zero bs _ _ (scK_zero ks _ _ (scA_zero al _ _ h)))
        · split at h
          · exact twF_zero (scK_zero ks _ _ (scA_zero al _ _ h))
          · exact scK_zero ks i _ (scA_zero al i _ h)
theorem scK_zero : ∀ (l : List TE) (i : List (List UInt8)) (s : FS), (scK cons l i s).1 = 0 → s.1 = 0
  | [], _, s, h => h
  | e :: l, i, s, h => scE_zero e i s (scK_zero l i _ h)
theorem scB_zero : ∀ (l : List TB) (i : List (List UInt8)) (s : FS), (scB cons l i s).1 = 0 → s.1 = 0
  | [], _, s, h => h
  | .mk _ p e :: l, i, s, h => twF_zero (scE_zero e _ _ (scB_zero l i _ h))
theorem scA_zero : ∀ (l : List TA) (i : List (List UInt8)) (s : FS), (scA cons l i s).1 = 0 → s.1 = 0
  | [], _, s, h => h
  | .mk k n _ _ ns e :: l, i, s, h => by
    have h := scA_zero l i _ h
    split at h
    · exact conS_zero (twF_zero (scE_zero e _ _ h))
    · split at h
      · exact scE_zero e _ _ h
      · exact scE_zero e _ _ h
end
end
/-- Constructors, the four ahead. -/
def fullD (m : TM) : List (List UInt8 × Nat) := [(falseN, 0), (trueN, 0), (nothN, 0), (justN, 1)] ++ m.cons
theorem fullD_names (m : TM) : (fullD m).map (·.1) = consN m := by simp [fullD, consN]
def flatN (l : List (List UInt8 × Nat)) : List Value := l.flatMap (fun d => [.string ⟨d.1.toArray⟩, .int .i64 (d.2 : Int)])
theorem flatN_len (l : List (List UInt8 × Nat)) : (flatN l).length = l.length * 2 := by
  induction l with
  | nil => rfl
  | cons d l ih =>
    have e : flatN (d :: l) = [.string ⟨d.1.toArray⟩, .int .i64 (d.2 : Int)] ++ flatN l := rfl
    rw [e, List.length_append, ih, List.length_cons]
    simp
    omega
theorem flatN_get (l : List (List UInt8 × Nat)) (i : Nat) (hi : i < l.length) : (flatN l)[i * 2]? = some (.string ⟨l[i].1.toArray⟩) ∧ (flatN l)[i * 2 + 1]? = some (.int .i64 (l[i].2 : Int)) := by
  induction l generalizing i with
  | nil => simp at hi
  | cons d l ih =>
    have e : flatN (d :: l) = .string ⟨d.1.toArray⟩ :: .int .i64 (d.2 : Int) :: flatN l := rfl
    cases i with
    | zero => rw [e]; simp
    | succ i =>
      have := ih i (by simpa using hi)
      rw [e, show (i + 1) * 2 = i * 2 + 1 + 1 by omega]
      simpa using this
/-- Constructors as they lie in a row. -/
def DeclsAt (X : Nat → Prop) (w : World) (v : Value) (l : List (List UInt8 × Nat)) : Prop := RowC X w v l.length 2 (fun i => [.string ⟨(l.getD i ([], 0)).1.toArray⟩, .int .i64 ((l.getD i ([], 0)).2 : Int)])
theorem DeclsAt.cell {X : Nat → Prop} {w : World} {a : Option Addr} {n cap : Nat} {l : List (List UInt8 × Nat)} (h : DeclsAt X w (.slice a n cap) l) (i : Nat) (hi : i < l.length) : ∃ b off, a = some ⟨b, off, none⟩ ∧ ¬ X b ∧ w.cell? ⟨b, off + i * 2, none⟩ = some (.string ⟨l[i].1.toArray⟩) ∧ w.cell? ⟨b, off + i * 2 + 1, none⟩ = some (.int .i64 (l[i].2 : Int)) := by
  obtain ⟨a1, cap1, e, h1, h2, hc⟩ := h
  cases e
  obtain ⟨b, off, rfl, hb, hl, hcell⟩ := hc i hi
  have e1 : l.getD i ([], 0) = l[i] := by simp [List.getD, hi]
  simp only [e1] at hcell
  exact ⟨b, off, rfl, hb, hcell 0 _ rfl, hcell 1 _ rfl⟩
theorem DeclsAt.of_own {X : Nat → Prop} {w : World} {base : Nat} {v : Value} {l : List (List UInt8 × Nat)} {t : TypeId} (h : w.ownsRow base t 2 v l.length (flatN l)) (hX : ∀ b, X b → b < base) : DeclsAt X w v l :=
  RowC.of_own h hX (fun i hi => rfl) (fun i hi j u hj => by
    have e1 : l.getD i ([], 0) = l[i] := by simp [List.getD, hi]
    rw [e1] at hj
    have hg := flatN_get l i hi
    match j, hj with
    | 0, hj => simp at hj; subst hj; simpa using hg.1
    | 1, hj => simp at hj; subst hj; exact hg.2)
theorem DeclsAt.src {X : Nat → Prop} {w : World} {a : Option Addr} {n cap : Nat} {l : List (List UInt8 × Nat)} (h : DeclsAt X w (.slice a n cap) l) (hn : l.length = n) : Src w a n 2 (flatN l) := by
  rcases Nat.eq_zero_or_pos l.length with q | q
  · rw [List.length_eq_zero_iff] at q
    subst q
    subst hn
    cases a with
    | none => exact .inl ⟨rfl, rfl, rfl⟩
    | some ad => exact .inr ⟨ad, rfl, rfl, fun j u hj => by simp [flatN] at hj⟩
  · obtain ⟨b, off, rfl, _, _⟩ := h.cell 0 q
    refine .inr ⟨_, rfl, by rw [flatN_len, hn], fun j u hj => ?_⟩
    have hj2 : j < l.length * 2 := by
      have := (List.getElem?_eq_some_iff.1 hj).1
      rwa [flatN_len] at this
    have hi : j / 2 < l.length := by omega
    obtain ⟨b', off', e, _, p0, p1⟩ := h.cell (j / 2) hi
    cases e
    have hg := flatN_get l (j / 2) hi
    rw [add_at]
    rcases Nat.mod_two_eq_zero_or_one j with z | z
    · have ej : j / 2 * 2 = j := by omega
      rw [ej] at p0 hg
      rw [p0, ← hj, hg.1]
    · have ej : j / 2 * 2 + 1 = j := by omega
      have ej2 : off + j / 2 * 2 + 1 = off + j := by omega
      rw [ej2] at p1
      rw [ej] at hg
      rw [p1, ← hj, hg.2]
theorem flatN_one {l : List (List UInt8 × Nat)} : ∀ u ∈ flatN l, u.oneCell' = true := fun u hu => by
  obtain ⟨d, _, hd⟩ := List.mem_flatMap.1 hu
  simp at hd
  rcases hd with rfl | rfl <;> rfl
theorem flatN_app (a b : List (List UInt8 × Nat)) : flatN (a ++ b) = flatN a ++ flatN b := by simp [flatN]
theorem owns_four {w : World} {g base : Nat} (h : Blk w g #[.string ⟨#[70, 97, 108, 115, 101]⟩, .int .i64 0, .string ⟨#[84, 114, 117, 101]⟩, .int .i64 0, .string ⟨#[78, 111, 116, 104, 105, 110, 103]⟩, .int .i64 0, .string ⟨#[74, 117, 115, 116]⟩, .int .i64 1] 49) (hb : base ≤ g) : w.ownsRow base 49 2 (.slice (some ⟨g, 0, none⟩) 4 4) 4 (flatN [(falseN, 0), (trueN, 0), (nothN, 0), (justN, 1)]) :=
  ⟨rfl, .inr ⟨g, 4, _, rfl, hb, h, Nat.le_refl _, by unfold maxLen; omega, rfl, rfl⟩⟩
section
variable {X : Nat → Prop} {w : World} {m : TM} {c1 : Option Addr} {c2 : Nat} {bv : Value}
/-- A module as it lies in two cells. -/
def ModV (X : Nat → Prop) (w : World) (c1 : Option Addr) (nc c2 : Nat) (b1 : Option Addr) (nb b2 : Nat) (m : TM) : Prop := DeclsAt X w (.slice c1 nc c2) m.cons ∧ m.cons.length = nc ∧ BindsAt X w (.slice b1 nb b2) m.binds ∧ m.binds.length = nb
theorem ModV.fr {S : Nat → Prop} {w w' : World} {nc : Nat} {b1 : Option Addr} {nb b2 : Nat} (h : ModV X w c1 nc c2 b1 nb b2 m) (f : Fr S w w') (hs : ∀ b, S b → X b) : ModV X w' c1 nc c2 b1 nb b2 m := ⟨RowC.fr h.1 f hs, h.2.1, h.2.2.1.fr f hs, h.2.2.2⟩
theorem ModV.mono {Y : Nat → Prop} {w : World} {nc : Nat} {b1 : Option Addr} {nb b2 : Nat} (h : ModV X w c1 nc c2 b1 nb b2 m) (hs : ∀ b, b < w.heap.size → Y b → X b) : ModV Y w c1 nc c2 b1 nb b2 m := by
  obtain ⟨h1, h2, ⟨cs, h3, h4⟩, h5⟩ := h
  exact ⟨RowC.mono h1 (by decide) hs, h2, ⟨cs, h3.mono (by decide) hs, fun i hi => lawB.mono (h4 i hi) hs⟩, h5⟩
end
theorem mod_len (L : List TokV) : ∀ (n : Nat) (m : TM) (s : PS), (modF L n m s).1.cons.length + measP L (modF L n m s).2 ≤ m.cons.length + measP L s
  | 0, m, s => Nat.le_refl _
  | n + 1, m, s => by
    unfold modF
    split
    · rename_i hc
      split
      · have h1 := mod_len L n ⟨m.cons ++ (dataF L (fuelP L) [] { s with at_ := s.at_ + 1 }).1, m.binds⟩ (needF L [59] (dataF L (fuelP L) [] { s with at_ := s.at_ + 1 }).2)
        have h2 := data_len L (fuelP L) [] { s with at_ := s.at_ + 1 }
        have h3 := measP_goes (need_goes (L := L) [59] (dataF L (fuelP L) [] { s with at_ := s.at_ + 1 }).2)
        have h4 := measP_goes (Goes.step hc.2)
        simp only [List.length_append, List.length_nil] at h1 h2 ⊢
        omega
      · have h1 := mod_len L n ⟨m.cons, m.binds ++ [(bindF L (exprF L 200) s).1]⟩ (needF L [59] (bindF L (exprF L 200) s).2)
        have h3 := measP_goes ((bind_goes (L := L) (expr_goes L 200) s).trans (need_goes [59] _))
        simp only at h1 ⊢
        omega
    · exact Nat.le_refl _
/-- A source's constructors and binds are few. -/
theorem parse_few (s : List UInt8) : (parseF s).1.cons.length ≤ 100000 ∧ (parseF s).1.binds.length + wnB (parseF s).1.binds ≤ 4096 := by
  have h := parse_ok s
  have hl := lexF_size8 s
  rw [wnB_eq] at h
  refine ⟨?_, by omega⟩
  unfold parseF
  split
  · exact Nat.zero_le _
  · show (tokensF (lexF s).toks).1.cons.length ≤ _
    unfold tokensF
    simp only
    split
    · exact Nat.zero_le _
    · have h1 := mod_len (lexF s).toks (fuelP (lexF s).toks) ⟨[], []⟩ ⟨0, 0, 0⟩
      have h2 : measP (lexF s).toks ⟨0, 0, 0⟩ = (lexF s).toks.length + 1 := by unfold measP; simp
      rw [h2] at h1
      simp only [List.length_nil] at h1
      show (modF (lexF s).toks (fuelP (lexF s).toks) ⟨[], []⟩ ⟨0, 0, 0⟩).1.cons.length ≤ _
      omega
section
variable {L : List TokV}
theorem token_le {B : Nat} (hL : ∀ t ∈ L, t.text.length ≤ B) (k : Int) (s : PS) : (tokenF L k s).1.text.length ≤ B := by
  unfold tokenF
  split
  · cases h : L[s.at_]? with
    | none => exact Nat.zero_le _
    | some t => exact hL t (List.mem_of_getElem? h)
  · exact Nat.zero_le _
theorem data_le {B : Nat} (hL : ∀ t ∈ L, t.text.length ≤ B) : ∀ (n : Nat) (acc : List (List UInt8 × Nat)) (s : PS), (∀ d ∈ acc, d.1.length ≤ B) → ∀ d ∈ (dataF L n acc s).1, d.1.length ≤ B
  | 0, acc, s, h => h
  | n + 1, acc, s, h => by
    unfold dataF
    split
    · refine data_le hL n _ _ (fun d hd => ?_)
      rcases List.mem_append.1 hd with q | q
      · exact h d q
      · rw [List.mem_singleton] at q
        rw [q]
        exact token_le hL _ _
    · exact h
theorem mod_le {B : Nat} (hL : ∀ t ∈ L, t.text.length ≤ B) : ∀ (n : Nat) (m : TM) (s : PS), (∀ d ∈ m.cons, d.1.length ≤ B) → ∀ d ∈ (modF L n m s).1.cons, d.1.length ≤ B
  | 0, m, s, h => h
  | n + 1, m, s, h => by
    unfold modF
    split
    · split
      · refine mod_le hL n _ _ (fun d hd => ?_)
        rcases List.mem_append.1 hd with q | q
        · exact h d q
        · exact data_le hL _ _ _ (fun d hd => by simp at hd) d q
      · exact mod_le hL n _ _ h
    · exact h
end
theorem parse_cn (s : List UInt8) : ∀ d ∈ (parseF s).1.cons, d.1.length ≤ s.length := by
  unfold parseF
  split
  · intro d hd; simp at hd
  · show ∀ d ∈ (tokensF (lexF s).toks).1.cons, _
    unfold tokensF
    simp only
    split
    · intro d hd; simp at hd
    · exact mod_le (lexF_texts s) _ _ _ (fun d hd => by simp at hd)
theorem parse_src (s : List UInt8) (hs : s.length ≤ maxLen) : SrcOk (parseF s).1 := by
  have h := parse_ok s
  have hb := wf_okB hs (lexF_texts s) _ h.1
  exact ⟨(parse_few s).2, (parse_few s).1, hb.1, hb.2, fun d hd => Nat.le_trans (parse_cn s d hd) hs⟩
end Go.Proofs.YtpjlibbdngnnnaaDoor
