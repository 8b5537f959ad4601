/-
  What show comes to, in plain words; where a module lies (out of the texts of the laws on show). No conditions.
-/
import Derived.Deep.RegionHeld3
import Derived.Lib.Join
import Derived.Lib.ItoaNum
import Derived.Deep.LoopGhost
import Derived.Laws.IdiomStrings
import Derived.BigQuiet
import Derived.Deep.QuietTactic
import Derived.Test.YtlnmicddobgppaaGreatDoorNnK
import Derived.Test.YtlnmicddobgppaaGreatDoorNnL
import Derived.Test.YtlnmicddobgppaaGreatDoorNnC
import Derived.Test.YtlnmicddobgppaaGreatDoorNnB
import Derived.Test.YtlnmicddobgppaaGreatDoorNnM
import Derived.Test.YtlnmicddobgppaaGreatDoorNnQ
import Derived.Test.YtlnmicddobgppaaGreatDoorNnA
namespace Go.Proofs.YtlnmicddobgppaaGreatDoor
set_option linter.unusedSimpArgs false
set_option linter.unusedVariables false
open Go.RowKit
theorem RowS.cell {X : Nat → Prop} {w : World} {a : Option Addr} {n cap : Nat} {l : List (List UInt8)} (h : RowS X w (.slice a n cap) l) (i : Nat) (hi : i < l.length) : ∃ b off, a = some ⟨b, off, none⟩ ∧ ¬ X b ∧ w.cell? ⟨b, off + i, none⟩ = some (.string ⟨(l[i]).toArray⟩) := by
 obtain ⟨a1, cap1, e, h1, h2, hc⟩ := h
 cases e
 obtain ⟨b, off, rfl, hb, hl, hcell⟩ := hc i hi
 refine ⟨b, off, rfl, hb, ?_⟩
 have := hcell 0 (.string ⟨(l[i]).toArray⟩) (by simp [List.getD, hi])
 simpa using this
theorem RowS.len {X : Nat → Prop} {w : World} {v : Value} {l : List (List UInt8)} (h : RowS X w v l) : l.length ≤ maxLen := by
 obtain ⟨a1, cap1, e, h1, h2, hc⟩ := h
 omega
mutual
def szE : TE → Nat
 | .mk _ _ _ _ _ ks bs al => 1 + szK ks + szB bs + szA al
def szK : List TE → Nat
 | [] => 0
 | e :: l => szE e + szK l
def szB : List TB → Nat
 | [] => 0
 | .mk _ _ e :: l => szE e + szB l
def szA : List TA → Nat
 | [] => 0
 | .mk _ _ _ _ _ e :: l => szE e + szA l
end
def FormE (c : List Value) : Prop := ∃ (k : Nat) (nm : ByteArray) (fl : Bool) (bi : Nat) (a0 : Option Addr) (n0 c0 : Nat) (a1 : Option Addr) (n1 c1 : Nat) (a2 : Option Addr) (n2 c2 : Nat) (a3 : Option Addr) (n3 c3 : Nat), c = [.int .i64 (k : Int), .string nm, .bool fl, .int .u64 (bi : Int), .slice a0 n0 c0, .slice a1 n1 c1, .slice a2 n2 c2, .slice a3 n3 c3]
def FormB (c : List Value) : Prop := ∃ (bn : ByteArray) (pa : Option Addr) (pn pc : Nat) (k : Nat) (nm : ByteArray) (fl : Bool) (bi : Nat) (a0 : Option Addr) (n0 c0 : Nat) (a1 : Option Addr) (n1 c1 : Nat) (a2 : Option Addr) (n2 c2 : Nat) (a3 : Option Addr) (n3 c3 : Nat), c = [.string bn, .slice pa pn pc, .int .i64 (k : Int), .string nm, .bool fl, .int .u64 (bi : Int), .slice a0 n0 c0, .slice a1 n1 c1, .slice a2 n2 c2, .slice a3 n3 c3]
def FormA (c : List Value) : Prop := ∃ (tk : Nat) (tn : ByteArray) (tf : Bool) (tb : Nat) (pa : Option Addr) (pn pc : Nat) (k : Nat) (nm : ByteArray) (fl : Bool) (bi : Nat) (a0 : Option Addr) (n0 c0 : Nat) (a1 : Option Addr) (n1 c1 : Nat) (a2 : Option Addr) (n2 c2 : Nat) (a3 : Option Addr) (n3 c3 : Nat), c = [.int .i64 (tk : Int), .string tn, .bool tf, .int .u64 (tb : Int), .slice pa pn pc, .int .i64 (k : Int), .string nm, .bool fl, .int .u64 (bi : Int), .slice a0 n0 c0, .slice a1 n1 c1, .slice a2 n2 c2, .slice a3 n3 c3]
theorem EAt.formE {X : Nat → Prop} {w : World} {cs : List Value} {t : TE} (h : EAt X w cs t) : FormE cs := by
 obtain ⟨k, nm, fl, bi, a0, n0, c0, a1, n1, c1, a2, n2, c2, a3, n3, c3, rfl⟩ := h.form
 exact ⟨k, nm, fl, bi, a0, n0, c0, a1, n1, c1, a2, n2, c2, a3, n3, c3, rfl⟩
theorem BAt.formB {X : Nat → Prop} {w : World} {c : List Value} {t : TB} (h : BAt X w c t) : FormB c := by
 obtain ⟨pn, cs, rfl, h1, h2⟩ := h
 obtain ⟨pa, pc, rfl⟩ := RowC.shape h1
 obtain ⟨k, nm, fl, bi, a0, n0, c0, a1, n1, c1, a2, n2, c2, a3, n3, c3, rfl⟩ := h2.form
 exact ⟨_, _, _, _, _, _, _, _, _, _, _, _, _, _, _, _, _, _, _, _, rfl⟩
theorem AAt.formA {X : Nat → Prop} {w : World} {c : List Value} {t : TA} (h : AAt X w c t) : FormA c := by
 obtain ⟨pn, cs, rfl, h1, h2⟩ := h
 obtain ⟨pa, pc, rfl⟩ := RowC.shape h1
 obtain ⟨k, nm, fl, bi, a0, n0, c0, a1, n1, c1, a2, n2, c2, a3, n3, c3, rfl⟩ := h2.form
 exact ⟨_, _, _, _, _, _, _, _, _, _, _, _, _, _, _, _, _, _, _, _, _, _, _, rfl⟩
def wnB : List TB → Nat
 | [] => 0
 | .mk _ p e :: l => p.length + wtE e + wnB l
theorem wnB_eq : ∀ l : List TB, wtB l = wnB l + l.length
 | [] => rfl
 | .mk _ p e :: l => by
  have := wnB_eq l
  unfold wtB wnB
  rw [List.length_cons]
  omega
theorem lexG_texts (B : Nat) (f : Nat) (acc : List TokV) (l : List UInt8) (ln : Nat) (hB : l.length ≤ B) (ha : ∀ t ∈ acc, t.text.length ≤ B) : ∀ t ∈ (lexG f acc l ln).toks, t.text.length ≤ B := by
 induction f generalizing acc l ln with
 | zero => exact ha
 | succ f ih =>
  by_cases hl : l = []
  · subst hl; rw [lexG_end]; exact ha
  · by_cases he : (oneF l ln).2 = 0
    · by_cases hf : acc.length = 4096
      · rw [lexG_full hl he hf]
        exact fun t ht => by simp at ht
      · rw [lexG_more hl he hf]
        have h1 := skipF_len false (l.drop (oneF l ln).1.text.length) ln
        rw [List.length_drop] at h1
        have h2 := (oneF_pre l ln he).1.length_le
        refine ih _ _ _ (by omega) (fun t ht => ?_)
        rcases List.mem_append.1 ht with q | q
        · exact ha t q
        · obtain rfl : t = (oneF l ln).1 := by simpa using q
          omega
    · rw [lexG_bad hl he]
      exact fun t ht => by simp at ht
theorem lexF_texts (s : List UInt8) : ∀ t ∈ (lexF s).toks, t.text.length ≤ s.length := by
 unfold lexF
 exact lexG_texts s.length _ [] _ _ (skipF_len _ _ _) (fun t ht => by simp at ht)
section
variable {L : List TokV}
end
def BindsAt (X : Nat → Prop) (w : World) (v : Value) (bs : List TB) : Prop := ∃ cs, RowC X w v bs.length 10 cs ∧ ∀ i (h : i < bs.length), BAt X w (cs i) bs[i]
theorem BindsAt.fr {X S : Nat → Prop} {w w' : World} {v : Value} {bs : List TB} (h : BindsAt X w v bs) (f : Fr S w w') (hs : ∀ b, S b → X b) : BindsAt X w' v bs := by
 obtain ⟨cs, h1, h2⟩ := h
 exact ⟨cs, h1.fr f hs, fun i hi => lawB.fr (h2 i hi) f hs⟩
theorem BindsAt.shape {X : Nat → Prop} {w : World} {v : Value} {bs : List TB} (h : BindsAt X w v bs) : ∃ a cap, v = .slice a bs.length cap := by
 obtain ⟨cs, h1, h2⟩ := h
 exact h1.shape
theorem BindsAt.at {w : World} {a : Option Addr} {n cap : Nat} {bs : List TB} (h : BindsAt (fun _ => False) w (.slice a n cap) bs) {i : Nat} (hi : i < bs.length) : ∃ (b off : Nat) (pa : Option Addr) (pn pc : Nat) (c : List Value), a = some ⟨b, off, none⟩ ∧ b < w.heap.size ∧ FormE c ∧ RowS (fun _ => False) w (.slice pa pn pc) bs[i].params ∧ EAt (fun _ => False) w c bs[i].body ∧ pn = bs[i].params.length ∧
 ∀ w', Fr Nil w w' → w'.cell? ⟨b, off + i * 10, none⟩ = some (.string ⟨bs[i].name.toArray⟩) ∧ w'.cell? ⟨b, off + i * 10 + 1, none⟩ = some (.slice pa pn pc) ∧ ∀ j u, c[j]? = some u → w'.cell? ⟨b, off + i * 10 + 2 + j, none⟩ = some u := by
 obtain ⟨cs, h1, h2⟩ := h
 obtain ⟨a1, cap1, e, _, _, hc0⟩ := h1
 cases e
 obtain ⟨b, off, rfl, _, hl, hc⟩ := hc0 i hi
 obtain ⟨pn, c, ec, hr, he⟩ := h2 i hi
 obtain ⟨pa, pc, rfl⟩ := RowC.shape hr
 rw [ec] at hc
 refine ⟨b, off, pa, _, pc, c, rfl, World.block_lt_of_cell? _ _ (hc 0 _ rfl), he.formE, hr, he, rfl, fun w' f => ⟨f.cell (hc 0 _ rfl) (fun q => q), f.cell (hc 1 _ rfl) (fun q => q), fun j u hj => ?_⟩⟩
 have := hc (j + 2) u (by simpa using hj)
 rw [show off + i * 10 + (j + 2) = off + i * 10 + 2 + j by omega] at this
 exact f.cell this (fun q => q)
theorem RowS.of_blk {X : Nat → Prop} {w : World} {b : Nat} {l : List (List UInt8)} {t : TypeId} (h : Blk w b (strC l).toArray t) (hl : l.length ≤ maxLen) (hX : ¬ X b) : RowS X w (.slice (some ⟨b, 0, none⟩) l.length l.length) l :=
 ⟨_, _, rfl, Nat.le_refl _, hl, fun i hi => ⟨b, 0, rfl, hX, rfl, fun j u hj => by
  cases j with
  | succ j => simp at hj
  | zero =>
   simp at hj
   subst hj
   rw [h.cell]
   simp [strC, hi]⟩⟩
section
variable (cons : List (List UInt8))
end
-- no fault
section
variable {cons : List (List UInt8)}
end
def flatN (l : List (List UInt8 × Nat)) : List Value := l.flatMap (fun d => [.string ⟨d.1.toArray⟩, .int .i64 (d.2 : Int)])
theorem flatN_get (l : List (List UInt8 × Nat)) (i : Nat) (hi : i < l.length) : (flatN l)[i * 2]? = some (.string ⟨l[i].1.toArray⟩) ∧ (flatN l)[i * 2 + 1]? = some (.int .i64 (l[i].2 : Int)) := by
 induction l generalizing i with
 | nil => simp at hi
 | cons d l ih =>
  have e : flatN (d :: l) = .string ⟨d.1.toArray⟩ :: .int .i64 (d.2 : Int) :: flatN l := rfl
  cases i with
  | zero => rw [e]; simp
  | succ i =>
   have := ih i (by simpa using hi)
   rw [e, show (i + 1) * 2 = i * 2 + 1 + 1 by omega]
   simpa using this
def DeclsAt (X : Nat → Prop) (w : World) (v : Value) (l : List (List UInt8 × Nat)) : Prop := RowC X w v l.length 2 (fun i => [.string ⟨(l.getD i ([], 0)).1.toArray⟩, .int .i64 ((l.getD i ([], 0)).2 : Int)])
theorem DeclsAt.cell {X : Nat → Prop} {w : World} {a : Option Addr} {n cap : Nat} {l : List (List UInt8 × Nat)} (h : DeclsAt X w (.slice a n cap) l) (i : Nat) (hi : i < l.length) : ∃ b off, a = some ⟨b, off, none⟩ ∧ ¬ X b ∧ w.cell? ⟨b, off + i * 2, none⟩ = some (.string ⟨l[i].1.toArray⟩) ∧ w.cell? ⟨b, off + i * 2 + 1, none⟩ = some (.int .i64 (l[i].2 : Int)) := by
 obtain ⟨a1, cap1, e, h1, h2, hc⟩ := h
 cases e
 obtain ⟨b, off, rfl, hb, hl, hcell⟩ := hc i hi
 have e1 : l.getD i ([], 0) = l[i] := by simp [List.getD, hi]
 simp only [e1] at hcell
 exact ⟨b, off, rfl, hb, hcell 0 _ rfl, hcell 1 _ rfl⟩
theorem DeclsAt.of_own {X : Nat → Prop} {w : World} {base : Nat} {v : Value} {l : List (List UInt8 × Nat)} {t : TypeId} (h : w.ownsRow base t 2 v l.length (flatN l)) (hX : ∀ b, X b → b < base) : DeclsAt X w v l :=
 RowC.of_own h hX (fun i hi => rfl) (fun i hi j u hj => by
  have e1 : l.getD i ([], 0) = l[i] := by simp [List.getD, hi]
  rw [e1] at hj
  have hg := flatN_get l i hi
  match j, hj with
  | 0, hj => simp at hj; subst hj; simpa using hg.1
  | 1, hj => simp at hj; subst hj; exact hg.2)
section
variable {X : Nat → Prop} {w : World} {m : TM} {c1 : Option Addr} {c2 : Nat} {bv : Value}
def ModV (X : Nat → Prop) (w : World) (c1 : Option Addr) (nc c2 : Nat) (b1 : Option Addr) (nb b2 : Nat) (m : TM) : Prop := DeclsAt X w (.slice c1 nc c2) m.cons ∧ m.cons.length = nc ∧ BindsAt X w (.slice b1 nb b2) m.binds ∧ m.binds.length = nb
theorem ModV.fr {S : Nat → Prop} {w w' : World} {nc : Nat} {b1 : Option Addr} {nb b2 : Nat} (h : ModV X w c1 nc c2 b1 nb b2 m) (f : Fr S w w') (hs : ∀ b, S b → X b) : ModV X w' c1 nc c2 b1 nb b2 m := ⟨RowC.fr h.1 f hs, h.2.1, h.2.2.1.fr f hs, h.2.2.2⟩
theorem ModV.mono {Y : Nat → Prop} {w : World} {nc : Nat} {b1 : Option Addr} {nb b2 : Nat} (h : ModV X w c1 nc c2 b1 nb b2 m) (hs : ∀ b, b < w.heap.size → Y b → X b) : ModV Y w c1 nc c2 b1 nb b2 m := by
 obtain ⟨h1, h2, ⟨cs, h3, h4⟩, h5⟩ := h
 exact ⟨RowC.mono h1 (by decide) hs, h2, ⟨cs, h3.mono (by decide) hs, fun i hi => lawB.mono (h4 i hi) hs⟩, h5⟩
end
theorem mod_len (L : List TokV) : ∀ (n : Nat) (m : TM) (s : PS), (modF L n m s).1.cons.length + measP L (modF L n m s).2 ≤ m.cons.length + measP L s
 | 0, m, s => Nat.le_refl _
 | n + 1, m, s => by
  unfold modF
  split
  · rename_i hc
    split
    · have h1 := mod_len L n ⟨m.cons ++ (dataF L (fuelP L) [] { s with at_ := s.at_ + 1 }).1, m.binds⟩ (needF L [59] (dataF L (fuelP L) [] { s with at_ := s.at_ + 1 }).2)
      have h2 := data_len L (fuelP L) [] { s with at_ := s.at_ + 1 }
      have h3 := measP_goes (need_goes (L := L) [59] (dataF L (fuelP L) [] { s with at_ := s.at_ + 1 }).2)
      have h4 := measP_goes (Goes.step hc.2)
      simp only [List.length_append, List.length_nil] at h1 h2 ⊢
      omega
    · have h1 := mod_len L n ⟨m.cons, m.binds ++ [(bindF L (exprF L 200) s).1]⟩ (needF L [59] (bindF L (exprF L 200) s).2)
      have h3 := measP_goes ((bind_goes (L := L) (expr_goes L 200) s).trans (need_goes [59] _))
      simp only at h1 ⊢
      omega
  · exact Nat.le_refl _
theorem parse_few (s : List UInt8) : (parseF s).1.cons.length ≤ 100000 ∧ (parseF s).1.binds.length + wnB (parseF s).1.binds ≤ 4096 := by
 have h := parse_ok s
 have hl := lexF_size8 s
 rw [wnB_eq] at h
 refine ⟨?_, by omega⟩
 unfold parseF
 split
 · exact Nat.zero_le _
 · show (tokensF (lexF s).toks).1.cons.length ≤ _
   unfold tokensF
   simp only
   split
   · exact Nat.zero_le _
   · have h1 := mod_len (lexF s).toks (fuelP (lexF s).toks) ⟨[], []⟩ ⟨0, 0, 0⟩
     have h2 : measP (lexF s).toks ⟨0, 0, 0⟩ = (lexF s).toks.length + 1 := by unfold measP; simp
     rw [h2] at h1
     simp only [List.length_nil] at h1
     show (modF (lexF s).toks (fuelP (lexF s).toks) ⟨[], []⟩ ⟨0, 0, 0⟩).1.cons.length ≤ _
     omega
section
variable {L : List TokV}
theorem token_le {B : Nat} (hL : ∀ t ∈ L, t.text.length ≤ B) (k : Int) (s : PS) : (tokenF L k s).1.text.length ≤ B := by
 unfold tokenF
 split
 · cases h : L[s.at_]? with
   | none => exact Nat.zero_le _
   | some t => exact hL t (List.mem_of_getElem? h)
 · exact Nat.zero_le _
theorem data_le {B : Nat} (hL : ∀ t ∈ L, t.text.length ≤ B) : ∀ (n : Nat) (acc : List (List UInt8 × Nat)) (s : PS), (∀ d ∈ acc, d.1.length ≤ B) → ∀ d ∈ (dataF L n acc s).1, d.1.length ≤ B
 | 0, acc, s, h => h
 | n + 1, acc, s, h => by
  unfold dataF
  split
  · refine data_le hL n _ _ (fun d hd => ?_)
    rcases List.mem_append.1 hd with q | q
    · exact h d q
    · rw [List.mem_singleton] at q
      rw [q]
      exact token_le hL _ _
  · exact h
theorem mod_le {B : Nat} (hL : ∀ t ∈ L, t.text.length ≤ B) : ∀ (n : Nat) (m : TM) (s : PS), (∀ d ∈ m.cons, d.1.length ≤ B) → ∀ d ∈ (modF L n m s).1.cons, d.1.length ≤ B
 | 0, m, s, h => h
 | n + 1, m, s, h => by
  unfold modF
  split
  · split
    · refine mod_le hL n _ _ (fun d hd => ?_)
      rcases List.mem_append.1 hd with q | q
      · exact h d q
      · exact data_le hL _ _ _ (fun d hd => by simp at hd) d q
    · exact mod_le hL n _ _ h
  · exact h
end
theorem parse_cn (s : List UInt8) : ∀ d ∈ (parseF s).1.cons, d.1.length ≤ s.length := by
 unfold parseF
 split
 · intro d hd; simp at hd
 · show ∀ d ∈ (tokensF (lexF s).toks).1.cons, _
   unfold tokensF
   simp only
   split
   · intro d hd; simp at hd
   · exact mod_le (lexF_texts s) _ _ _ (fun d hd => by simp at hd)
theorem EAt.frN {w w' : World} {cs : List Value} {t : TE} (h : EAt (fun _ => False) w cs t) (f : Fr Nil w w') : EAt (fun _ => False) w' cs t := h.fr f (fun _ q => q.elim)
theorem BAt.frN {w w' : World} {cs : List Value} {t : TB} (h : BAt (fun _ => False) w cs t) (f : Fr Nil w w') : BAt (fun _ => False) w' cs t := lawB.fr h f (fun _ q => q.elim)
theorem AAt.frN {w w' : World} {cs : List Value} {t : TA} (h : AAt (fun _ => False) w cs t) (f : Fr Nil w w') : AAt (fun _ => False) w' cs t := lawA.fr h f (fun _ q => q.elim)
theorem RowC.frN {w w' : World} {v : Value} {n size : Nat} {cs : Nat → List Value} (h : RowC (fun _ => False) w v n size cs) (f : Fr Nil w w') : RowC (fun _ => False) w' v n size cs := h.fr f (fun _ q => q.elim)
theorem RowS.frN {w w' : World} {v : Value} {l : List (List UInt8)} (h : RowS (fun _ => False) w v l) (f : Fr Nil w w') : RowS (fun _ => False) w' v l := RowS.fr h f (fun _ q => q.elim)
theorem RowC.lenX {X : Nat → Prop} {w : World} {v : Value} {n size : Nat} {cs : Nat → List Value} (h : RowC X w v n size cs) : n ≤ 9223372036854775807 := by
 obtain ⟨_, _, _, q1, q2, _⟩ := h
 unfold maxLen at q2
 omega
theorem EAt.opened {w : World} {cs : List Value} {k : Nat} {nm : List UInt8} {fl : Bool} {bi : Nat} {ps : List (List UInt8)} {ks : List TE} {bs : List TB} {al : List TA} (h : EAt (fun _ => False) w cs (.mk k nm fl bi ps ks bs al)) :
 ∃ (a0 : Option Addr) (c0 : Nat) (a1 : Option Addr) (c1 : Nat) (a2 : Option Addr) (c2 : Nat) (a3 : Option Addr) (c3 : Nat) (kc bc ac : Nat → List Value), cs = [.int .i64 (k : Int), .string ⟨nm.toArray⟩, .bool fl, .int .u64 (bi : Int), .slice a0 ps.length c0, .slice a1 ks.length c1, .slice a2 bs.length c2, .slice a3 al.length c3] ∧
  RowS (fun _ => False) w (.slice a0 ps.length c0) ps ∧ RowC (fun _ => False) w (.slice a1 ks.length c1) ks.length 8 kc ∧ (∀ i (h : i < ks.length), EAt (fun _ => False) w (kc i) ks[i]) ∧
  RowC (fun _ => False) w (.slice a2 bs.length c2) bs.length 10 bc ∧ (∀ i (h : i < bs.length), BAt (fun _ => False) w (bc i) bs[i]) ∧ RowC (fun _ => False) w (.slice a3 al.length c3) al.length 13 ac ∧ (∀ i (h : i < al.length), AAt (fun _ => False) w (ac i) al[i]) := by
 cases h with
 | mk kc bc ac be ae bp an hp hk hk2 hb hb1 hb2 hb3 ha ha1 ha2 ha3 =>
  obtain ⟨a0, c0, rfl⟩ := RowC.shape hp
  obtain ⟨a1, c1, rfl⟩ := hk.shape
  obtain ⟨a2, c2, rfl⟩ := hb.shape
  obtain ⟨a3, c3, rfl⟩ := ha.shape
  exact ⟨a0, c0, a1, c1, a2, c2, a3, c3, kc, bc, ac, rfl, hp, hk, hk2, hb, fun i hi => ⟨bp i, be i, hb1 i hi, hb2 i hi, hb3 i hi⟩, ha, fun i hi => ⟨an i, ae i, ha1 i hi, ha2 i hi, ha3 i hi⟩⟩
section
variable {cons : List (List UInt8)}
variable {w : World} {cb mi q1 q2 q3 q4 : Nat} {i : List (List UInt8)}
end
def numT (s : List UInt8) : List UInt8 := if s.head? = some 45 then 35 :: s else s
def joinS (l : List (List UInt8)) : List UInt8 := Lib.join l [32]
def joinR (l : List (List UInt8)) : List UInt8 := Lib.join l [59, 32]
def wordsF (l : List (List UInt8)) : List UInt8 := Lib.joinTail [32] l
def bareE : TE → Bool
 | .mk k _ _ _ _ ks _ _ => decide (k = 1) || decide (k = 3) || (ks.isEmpty && (decide (k = 2) || decide (k = 5)))
def parF (t : List UInt8) : List UInt8 := [40] ++ t ++ [41]
def atomT (e : TE) (t : List UInt8) : List UInt8 := if bareE e = true then t else parF t
def lowF (n : List UInt8) : Bool := match n with | [] => false | c :: _ => decide (97 ≤ c.toNat) && decide (c.toNat ≤ 122)
def nakedE : TE → Bool
 | .mk k _ _ _ _ ks _ _ => ks.isEmpty && (decide (k = 2) || decide (k = 5))
def headF (ks : List TE) (l : List (List UInt8)) : List (List UInt8) :=
 match ks, l with
 | e :: _, t :: r => (if nakedE e = true then parF t else t) :: r
 | _, l => l
section
variable (pr : Bool → Nat → List UInt8)
mutual
def swE : TE → List UInt8
 | .mk k n fl bi ps ks bs al =>
  if k = 1 then n
  else if k = 2 then joinS (n :: swK ks)
  else if k = 3 then numT (pr fl bi)
  else if k = 4 then joinS (headF ks (swK ks))
  else if k = 5 then (if lowF n = true ∨ ks.length ≠ 2 then joinS (n :: swK ks) else joinS [(swK ks).headD [], n, ((swK ks).drop 1).headD []])
  else if k = 6 then joinS [[108, 101, 116], joinR (swB bs), [105, 110], swX ks]
  else if k = 7 then joinS [[99, 97, 115, 101], swX ks, [111, 102], [123] ++ joinR (swA al) ++ [125]]
  else if k = 8 then [92] ++ joinS (ps ++ [[45, 62], swX ks])
  else []
def swX : List TE → List UInt8
 | [] => []
 | e :: _ => swE e
def swK : List TE → List (List UInt8)
 | [] => []
 | e :: l => atomT e (swE e) :: swK l
def swB : List TB → List (List UInt8)
 | [] => []
 | .mk n ps e :: l => joinS (n :: (ps ++ [[61], swE e])) :: swB l
def swA : List TA → List (List UInt8)
 | [] => []
 | .mk k n fl bi ns e :: l => joinS ((if k = 1 then [numT (pr fl bi)] else n :: ns) ++ [[45, 62], swE e]) :: swA l
end
def swB1 : TB → List UInt8 | .mk n ps e => joinS (n :: (ps ++ [[61], swE pr e]))
def swA1 : TA → List UInt8 | .mk k n fl bi ns e => joinS ((if k = 1 then [numT (pr fl bi)] else n :: ns) ++ [[45, 62], swE pr e])
theorem swK_map : ∀ l, swK pr l = l.map (fun e => atomT e (swE pr e))
 | [] => by rw [swK]; rfl
 | e :: l => by rw [swK, swK_map l]; rfl
theorem swB_map : ∀ l, swB pr l = l.map (swB1 pr)
 | [] => by rw [swB]; rfl
 | .mk n ps e :: l => by rw [swB, swB_map l]; rfl
theorem swA_map : ∀ l, swA pr l = l.map (swA1 pr)
 | [] => by rw [swA]; rfl
 | .mk k n fl bi ns e :: l => by rw [swA, swA_map l]; rfl
def consT (cs : List (List UInt8 × Nat)) : List UInt8 := if cs = [] then [] else [100, 97, 116, 97] ++ (cs.map (fun d => [32] ++ d.1 ++ [32] ++ Lib.decDigits d.2)).flatten ++ [59, 10]
def bindsT (bs : List TB) : List UInt8 := (bs.map (fun b => swB1 pr b ++ [59, 10])).flatten
def swM (m : TM) : List UInt8 := consT m.cons ++ bindsT pr m.binds
end
-- the document's way
theorem words_cons (x : List UInt8) (l : List (List UInt8)) : wordsF (x :: l) = [32] ++ x ++ wordsF l := by
 unfold wordsF Lib.joinTail
 simp
theorem joinS_cons (x : List UInt8) (l : List (List UInt8)) : joinS (x :: l) = x ++ wordsF l := Lib.join_cons x l [32]
-- lengths
theorem joinS_len (l : List (List UInt8)) : (joinS l).length ≤ (l.map (fun x => x.length + 1)).sum := by
 cases l with
 | nil => simp [joinS, Lib.join_nil]
 | cons x l =>
  rw [joinS_cons]
  have h : ∀ l : List (List UInt8), (wordsF l).length = (l.map (fun x => x.length + 1)).sum := fun l => by
   induction l with
   | nil => rfl
   | cons y l ih => rw [words_cons]; simp [ih]; omega
  simp [h l]
theorem joinR_len (l : List (List UInt8)) : (joinR l).length ≤ (l.map (fun x => x.length + 2)).sum := by
 cases l with
 | nil => simp [joinR, Lib.join_nil]
 | cons x l =>
  unfold joinR
  rw [Lib.join_cons]
  have h : ∀ l : List (List UInt8), (Lib.joinTail [59, 32] l).length = (l.map (fun x => x.length + 2)).sum := fun l => by
   induction l with
   | nil => rfl
   | cons y l ih =>
    have e : Lib.joinTail [59, 32] (y :: l) = [59, 32] ++ y ++ Lib.joinTail [59, 32] l := by unfold Lib.joinTail; simp
    rw [e]; simp [ih]; omega
  simp [h l]
def lenS (l : List (List UInt8)) : Nat := (l.map (fun x => x.length + 2)).sum
theorem lenS_app (a b : List (List UInt8)) : lenS (a ++ b) = lenS a + lenS b := by simp [lenS]
theorem lenS_cons (x : List UInt8) (l : List (List UInt8)) : lenS (x :: l) = x.length + 2 + lenS l := by simp [lenS]
theorem lenS_nil : lenS [] = 0 := rfl
theorem joinS_le (l : List (List UInt8)) : (joinS l).length ≤ lenS l := by
 refine Nat.le_trans (joinS_len l) ?_
 unfold lenS
 induction l with
 | nil => exact Nat.le_refl _
 | cons x l ih => simp at ih ⊢; omega
theorem joinR_le (l : List (List UInt8)) : (joinR l).length ≤ lenS l := joinR_len l
mutual
def zE : TE → Nat
 | .mk _ n _ _ ps ks bs al => 64 + n.length + lenS ps + zK ks + zB bs + zA al
def zK : List TE → Nat
 | [] => 0
 | e :: l => zE e + 8 + zK l
def zB : List TB → Nat
 | [] => 0
 | .mk n ps e :: l => 32 + n.length + lenS ps + zE e + zB l
def zA : List TA → Nat
 | [] => 0
 | .mk _ n _ _ ns e :: l => 64 + n.length + lenS ns + zE e + zA l
end
theorem atom_len (e : TE) (t : List UInt8) : (atomT e t).length ≤ t.length + 2 := by
 unfold atomT parF
 split
 · omega
 · simp
theorem head_len (ks : List TE) (l : List (List UInt8)) : lenS (headF ks l) ≤ lenS l + 2 := by
 unfold headF
 split
 · rename_i t r
   rw [lenS_cons, lenS_cons]
   split
   · simp [parF]; omega
   · omega
 · omega
section
variable (pr : Bool → Nat → List UInt8)
theorem num_len (hpr : ∀ f b, (pr f b).length ≤ 22) (f : Bool) (b : Nat) : (numT (pr f b)).length ≤ 23 := by
 have := hpr f b
 unfold numT
 split
 · simp; omega
 · omega
mutual
theorem swE_len (hpr : ∀ f b, (pr f b).length ≤ 22) : ∀ e : TE, (swE pr e).length ≤ zE e
 | .mk k n fl bi ps ks bs al => by
  have hk := swK_len hpr ks
  have hb := swB_len hpr bs
  have ha := swA_len hpr al
  have hx := swX_len hpr ks
  have hn := num_len pr hpr fl bi
  rw [swE]
  unfold zE
  split
  · omega
  · split
    · have := joinS_le (n :: swK pr ks); rw [lenS_cons] at this; omega
    · split
      · omega
      · split
        · have := joinS_le (headF ks (swK pr ks)); have := head_len ks (swK pr ks); omega
        · split
          · split
            · have := joinS_le (n :: swK pr ks); rw [lenS_cons] at this; omega
            · have := joinS_le [(swK pr ks).headD [], n, ((swK pr ks).drop 1).headD []]
              rw [lenS_cons, lenS_cons, lenS_cons, lenS_nil] at this
              have h2 : ((swK pr ks).headD []).length + (((swK pr ks).drop 1).headD []).length ≤ lenS (swK pr ks) := by
               cases swK pr ks with
               | nil => simp
               | cons x l => cases l with
                | nil => simp [lenS]
                | cons y l => simp [lenS]; omega
              omega
          · split
            · have := joinS_le [[108, 101, 116], joinR (swB pr bs), [105, 110], swX pr ks]
              have := joinR_le (swB pr bs)
              simp only [lenS_cons, lenS_nil, List.length_cons, List.length_nil] at *
              omega
            · split
              · have := joinS_le [[99, 97, 115, 101], swX pr ks, [111, 102], [123] ++ joinR (swA pr al) ++ [125]]
                have := joinR_le (swA pr al)
                simp only [lenS_cons, lenS_nil, List.length_cons, List.length_nil, List.length_append] at *
                omega
              · split
                · have := joinS_le (ps ++ [[45, 62], swX pr ks])
                  simp only [lenS_app, lenS_cons, lenS_nil, List.length_cons, List.length_nil, List.length_append] at *
                  omega
                · simp
theorem swX_len (hpr : ∀ f b, (pr f b).length ≤ 22) : ∀ l : List TE, (swX pr l).length ≤ zK l
 | [] => by rw [swX]; simp
 | e :: l => by
  have := swE_len hpr e
  rw [swX]
  unfold zK
  omega
theorem swK_len (hpr : ∀ f b, (pr f b).length ≤ 22) : ∀ l : List TE, lenS (swK pr l) ≤ zK l
 | [] => by rw [swK]; simp [lenS]
 | e :: l => by
  have h1 := swE_len hpr e
  have h2 := swK_len hpr l
  have h3 := atom_len e (swE pr e)
  rw [swK, lenS_cons]
  unfold zK
  omega
theorem swB_len (hpr : ∀ f b, (pr f b).length ≤ 22) : ∀ l : List TB, lenS (swB pr l) ≤ zB l
 | [] => by rw [swB]; simp [lenS]
 | .mk n ps e :: l => by
  have h1 := swE_len hpr e
  have h2 := swB_len hpr l
  have h3 := joinS_le (n :: (ps ++ [[61], swE pr e]))
  rw [swB, lenS_cons]
  unfold zB
  simp only [lenS_app, lenS_cons, lenS_nil, List.length_cons, List.length_nil] at *
  omega
theorem swA_len (hpr : ∀ f b, (pr f b).length ≤ 22) : ∀ l : List TA, lenS (swA pr l) ≤ zA l
 | [] => by rw [swA]; simp [lenS]
 | .mk k n fl bi ns e :: l => by
  have h1 := swE_len hpr e
  have h2 := swA_len hpr l
  have hn := num_len pr hpr fl bi
  have h3 := joinS_le ((if k = 1 then [numT (pr fl bi)] else n :: ns) ++ [[45, 62], swE pr e])
  rw [swA, lenS_cons]
  unfold zA
  rw [lenS_app] at h3
  have h4 : lenS (if k = 1 then [numT (pr fl bi)] else n :: ns) ≤ 25 + n.length + lenS ns := by
   split
   · rw [lenS_cons, lenS_nil]; omega
   · rw [lenS_cons]; omega
  simp only [lenS_cons, lenS_nil, List.length_cons, List.length_nil] at *
  omega
end
end
mutual
def wvE : TE → Nat
 | .mk k _ _ _ ps ks bs al => (if k = 4 then 0 else 1) + ps.length + wvK ks + wvB bs + wvA al
def wvK : List TE → Nat
 | [] => 0
 | e :: l => wvE e + wvK l
def wvB : List TB → Nat
 | [] => 0
 | .mk _ p e :: l => (1 + p.length + wvE e) + wvB l
def wvA : List TA → Nat
 | [] => 0
 | .mk _ _ _ _ p e :: l => (1 + p.length + wvE e) + wvA l
end
section
variable {L : List TokV}
theorem wvK_app (a b : List TE) : wvK (a ++ b) = wvK a + wvK b := by
 induction a with
 | nil => simp [wvK]
 | cons x l ih => simp [wvK, ih]; omega
theorem wvB_app (a b : List TB) : wvB (a ++ b) = wvB a + wvB b := by
 induction a with
 | nil => simp [wvB]
 | cons x l ih => obtain ⟨n, p, e⟩ := x; simp [wvB, ih]; omega
theorem wvA_app (a b : List TA) : wvA (a ++ b) = wvA a + wvA b := by
 induction a with
 | nil => simp [wvA]
 | cons x l ih => obtain ⟨k, n, f, b, p, e⟩ := x; simp [wvA, ih]; omega
def OkV (L : List TokV) (f : PS → TE × PS) : Prop := ∀ s, (f s).2.e = 0 → wfE L (f s).1 ∧ wvE (f s).1 + s.at_ ≤ (f s).2.at_
variable {ex : PS → TE × PS} (hgo : ∀ s, Goes L s (ex s).2) (hex : OkV L ex)
include hgo hex
theorem bind_okv (s : PS) (h : (bindF L ex s).2.e = 0) : wfB L [(bindF L ex s).1] ∧ wvB [(bindF L ex s).1] + s.at_ ≤ (bindF L ex s).2.at_ := by
 unfold bindF at h ⊢
 simp only at h ⊢
 have h1 := hex _ h
 have h2 := goes_ok (hgo _) h
 have h3 := need_ok h2
 have h4 := names_ok _ _ _ _ h3.1
 obtain ⟨l, hl⟩ : ∃ l, (namesF L (fuelP L) true [] s).1 = l := ⟨_, rfl⟩
 rw [hl] at h4 ⊢
 simp only [List.length_nil, Nat.zero_add] at h4
 have h5 := h4.2.2.2 (by trivial) (by unfold fuelP; omega)
 cases l with
 | nil => simp at h5
 | cons n r =>
  simp only [List.headD, List.tail, wfB, wvB]
  simp only [List.length_cons] at h4
  refine ⟨⟨⟨?_, fun x hx => ?_, h1.1⟩, trivial⟩, by omega⟩
  · exact (h4.1 n (by simp)).resolve_left (by simp)
  · exact (h4.1 x (by simp [hx])).resolve_left (by simp)
theorem alt_okv (s : PS) (h : (altF L ex s).2.e = 0) : wfA L [(altF L ex s).1] ∧ wvA [(altF L ex s).1] + s.at_ ≤ (altF L ex s).2.at_ := by
 unfold altF at h ⊢
 simp only at h ⊢
 have h1 := hex _ h
 have h2 := goes_ok (hgo _) h
 have h3 := need_ok h2
 unfold altHead at h1 h2 h3 ⊢
 split at h3
 · rename_i hk
   rw [if_pos hk] at h1 ⊢
   have h4 := names_ok _ _ _ _ h3.1
   have h5 := goes_ok (names_goes _ _ _ _) h3.1
   have h6 := token_ok2 (k := 2) (by decide) h5
   have h7 := token_text (k := 2) (by decide) h5
   simp only [wfA, wvA] at *
   simp only [List.length_nil, Nat.zero_add] at h4
   refine ⟨⟨⟨.inl ⟨trivial, h7, trivial, trivial, fun x hx => (h4.1 x hx).resolve_left (by simp)⟩, h1.1⟩, trivial⟩, by omega⟩
 · rename_i hk
   rw [if_neg hk] at h1 ⊢
   split at h3
   · rename_i hk3
     rw [if_pos hk3] at h1 ⊢
     have h6 := token_ok2 (k := 3) (by decide) h3.1
     simp only [wfA, wvA, List.length_nil] at *
     refine ⟨⟨⟨.inr (.inl ⟨trivial, trivial, ⟨_, h6.2.2.1, h6.2.2.2, rfl, rfl⟩, trivial⟩), h1.1⟩, trivial⟩, by omega⟩
   · rename_i hk3
     rw [if_neg hk3] at h1 ⊢
     have h6 := token_ok2 (k := 1) (by decide) h3.1
     have h7 := token_text (k := 1) (by decide) h3.1
     simp only [wfA, wvA, List.length_nil] at *
     refine ⟨⟨⟨.inr (.inr ⟨trivial, h7, trivial, trivial, trivial⟩), h1.1⟩, trivial⟩, by omega⟩
theorem atoms_okv : ∀ (n : Nat) (acc : List TE) (s : PS), (atomsF L ex n acc s).2.e = 0 → wfK L acc →
 wfK L (atomsF L ex n acc s).1 ∧ wvK (atomsF L ex n acc s).1 + s.at_ ≤ wvK acc + (atomsF L ex n acc s).2.at_
 | 0, acc, s, h, ha => ⟨ha, Nat.le_refl _⟩
 | n + 1, acc, s, h, ha => by
  unfold atomsF at h ⊢
  by_cases he : s.e ≠ 0
  · rw [if_pos he] at h ⊢
    exact ⟨ha, Nat.le_refl _⟩
  rw [if_neg he] at h ⊢
  by_cases h1 : kindP L s = 1
  · rw [if_pos h1] at h ⊢
    have ht := goes_ok (atoms_goes hgo n _ _) h
    have tk := token_ok2 (k := 1) (by decide) ht
    have tt := token_text (k := 1) (by decide) ht
    have ih := atoms_okv n _ _ h ((wfK_app _ _).2 ⟨ha, leaf_ok (.inl ⟨rfl, tt, rfl, rfl, rfl, rfl, rfl, rfl⟩), trivial⟩)
    rw [wvK_app] at ih
    simp only [wvK, wvE, wvB, wvA, List.length_nil, show ¬ (1 : Nat) = 4 by decide, if_false] at ih
    exact ⟨ih.1, by omega⟩
  rw [if_neg h1] at h ⊢
  by_cases h2 : kindP L s = 2
  · rw [if_pos h2] at h ⊢
    have ht := goes_ok (atoms_goes hgo n _ _) h
    have tk := token_ok2 (k := 2) (by decide) ht
    have tt := token_text (k := 2) (by decide) ht
    have ih := atoms_okv n _ _ h ((wfK_app _ _).2 ⟨ha, leaf_ok (.inr (.inl ⟨rfl, tt, rfl, rfl, rfl, rfl, rfl⟩)), trivial⟩)
    rw [wvK_app] at ih
    simp only [wvK, wvE, wvB, wvA, List.length_nil, show ¬ (2 : Nat) = 4 by decide, if_false] at ih
    exact ⟨ih.1, by omega⟩
  rw [if_neg h2] at h ⊢
  by_cases h7 : kindP L s = 7
  · rw [if_pos h7] at h ⊢
    have ht := goes_ok (atoms_goes hgo n _ _) h
    have tk := token_ok2 (k := 7) (by decide) ht
    have tt := token_text (k := 7) (by decide) ht
    have ih := atoms_okv n _ _ h ((wfK_app _ _).2 ⟨ha, leaf_ok (.inr (.inr (.inr (.inr (.inl ⟨rfl, .inl tt, rfl, rfl, rfl, rfl, rfl⟩))))), trivial⟩)
    rw [wvK_app] at ih
    simp only [wvK, wvE, wvB, wvA, List.length_nil, show ¬ (5 : Nat) = 4 by decide, if_false] at ih
    exact ⟨ih.1, by omega⟩
  rw [if_neg h7] at h ⊢
  by_cases h3 : kindP L s = 3
  · rw [if_pos h3] at h ⊢
    have ht := goes_ok (atoms_goes hgo n _ _) h
    have tk := token_ok2 (k := 3) (by decide) ht
    have ih := atoms_okv n _ _ h ((wfK_app _ _).2 ⟨ha, leaf_ok (.inr (.inr (.inl ⟨rfl, rfl, ⟨_, tk.2.2.1, tk.2.2.2, rfl, rfl⟩, rfl, rfl, rfl, rfl⟩))), trivial⟩)
    rw [wvK_app] at ih
    simp only [wvK, wvE, wvB, wvA, List.length_nil, show ¬ (3 : Nat) = 4 by decide, if_false] at ih
    exact ⟨ih.1, by omega⟩
  rw [if_neg h3] at h ⊢
  by_cases hs : seesF L [40] s = false
  · rw [if_pos hs] at h ⊢
    exact ⟨ha, Nat.le_refl _⟩
  rw [if_neg hs] at h ⊢
  have ht := need_ok (goes_ok (atoms_goes hgo n _ _) h)
  have hx := hex _ ht.1
  have ih := atoms_okv n _ _ h ((wfK_app _ _).2 ⟨ha, hx.1, trivial⟩)
  rw [wvK_app] at ih
  simp only [wvK] at ih
  have h5 := hx.2
  simp only at h5
  exact ⟨ih.1, by omega⟩
theorem row_okv : OkV L (rowF L ex) := fun s h => by
 have hat := atoms_okv hgo hex (fuelP L) [] s
 have hpre : s.e = 0 → kindP L s = 2 ∨ kindP L s = 7 → ∃ e r, (atomsF L ex (fuelP L) [] s).1 = e :: r ∧ ∃ k n, e = .mk k n false 0 [] [] [] [] ∧ (k = 2 ∨ k = 5) := fun he hk => by
  unfold fuelP
  unfold atomsF
  rw [if_neg (by simpa using he)]
  rcases hk with hk | hk
  · rw [if_neg (by rw [hk]; decide), if_pos hk]
    obtain ⟨r, hr⟩ := atoms_pre (L := L) (ex := ex) (L.length + 1) ([] ++ [.mk 2 (tokenF L 2 s).1.text false 0 [] [] [] []]) (tokenF L 2 s).2
    exact ⟨_, r, by rw [hr]; simp only [List.nil_append, List.cons_append]; rfl, 2, _, rfl, .inl rfl⟩
  · rw [if_neg (by rw [hk]; decide), if_neg (by rw [hk]; decide), if_pos hk]
    obtain ⟨r, hr⟩ := atoms_pre (L := L) (ex := ex) (L.length + 1) ([] ++ [.mk 5 (tokenF L 7 s).1.text false 0 [] [] [] []]) (tokenF L 7 s).2
    exact ⟨_, r, by rw [hr]; simp only [List.nil_append, List.cons_append]; rfl, 5, _, rfl, .inr rfl⟩
 have hg := atoms_goes hgo (fuelP L) [] s
 unfold rowF at h ⊢
 generalize atomsF L ex (fuelP L) [] s = p at h hat hpre hg ⊢
 obtain ⟨l, t⟩ := p
 rcases l with _ | ⟨e, _ | ⟨e2, r⟩⟩
 · exact absurd h (fault_bad (by decide))
 · dsimp only at h hat ⊢
   obtain ⟨a1, a2⟩ := hat h trivial
   simp only [wfK, wvK] at a1 a2
   exact ⟨a1.1, by omega⟩
 · dsimp only at h hat hg ⊢
   split at h
   · rename_i hk
     rw [if_pos hk]
     obtain ⟨a1, a2⟩ := hat h trivial
     obtain ⟨e', r', hr, k, n, rfl, hkk⟩ := hpre (goes_ok hg h) hk
     injection hr with hr1 hr2
     subst hr1 hr2
     simp only [wfK, wvK, wfE, wvE, TE.withKids, wvB, wvA, wfB, wfA, List.length_nil] at a1 a2 ⊢
     refine ⟨⟨?_, a1.2, trivial, trivial⟩, by omega⟩
     rcases a1.1.1 with q | q | q | q | q | q | q | q
     · rcases hkk with z | z <;> (rw [z] at q; exact absurd q.1 (by decide))
     · exact .inr (.inl ⟨q.1, q.2.1, rfl, rfl, rfl, rfl, rfl⟩)
     · rcases hkk with z | z <;> (rw [z] at q; exact absurd q.1 (by decide))
     · rcases hkk with z | z <;> (rw [z] at q; exact absurd q.1 (by decide))
     · refine .inr (.inr (.inr (.inr (.inl ⟨q.1, ?_, rfl, rfl, rfl, rfl, rfl⟩))))
       rcases q.2.1 with y | y
       · exact .inl y
       · exact absurd y.2 (by simp)
     · rcases hkk with z | z <;> (rw [z] at q; exact absurd q.1 (by decide))
     · rcases hkk with z | z <;> (rw [z] at q; exact absurd q.1 (by decide))
     · rcases hkk with z | z <;> (rw [z] at q; exact absurd q.1 (by decide))
   · rename_i hk
     rw [if_neg hk]
     obtain ⟨a1, a2⟩ := hat h trivial
     simp only [wfK, wvK, wfE, wvE, wvB, wvA, wfB, wfA, List.length_nil, if_true] at a1 a2 ⊢
     exact ⟨⟨.inr (.inr (.inr (.inl ⟨rfl, rfl, rfl, rfl, by simp, rfl, rfl, rfl⟩))), a1, trivial, trivial⟩, by omega⟩
theorem binds_okv : ∀ (n : Nat) (acc : List TB) (s : PS), (bindsF L ex n acc s).2.e = 0 → wfB L acc →
 wfB L (bindsF L ex n acc s).1 ∧ wvB (bindsF L ex n acc s).1 + s.at_ ≤ wvB acc + (bindsF L ex n acc s).2.at_ ∧ (acc ≠ [] → (bindsF L ex n acc s).1 ≠ [])
 | 0, acc, s, h, ha => ⟨ha, Nat.le_refl _, id⟩
 | n + 1, acc, s, h, ha => by
  unfold bindsF at h ⊢
  split at h
  · rename_i hc
    rw [if_pos hc]
    have ht := goes_ok (binds_goes hgo n _ _) h
    have hb := bind_okv hgo hex _ ht
    have ih := binds_okv n _ _ h ((wfB_app _ _).2 ⟨ha, hb.1⟩)
    rw [wvB_app] at ih
    have h5 := hb.2
    simp only at h5
    exact ⟨ih.1, by omega, fun _ => ih.2.2 (by simp)⟩
  · rename_i hc
    rw [if_neg hc]
    exact ⟨ha, Nat.le_refl _, id⟩
theorem alts_okv : ∀ (n : Nat) (acc : List TA) (s : PS), (altsF L ex n acc s).2.e = 0 → wfA L acc →
 wfA L (altsF L ex n acc s).1 ∧ wvA (altsF L ex n acc s).1 + s.at_ ≤ wvA acc + (altsF L ex n acc s).2.at_
 | 0, acc, s, h, ha => ⟨ha, Nat.le_refl _⟩
 | n + 1, acc, s, h, ha => by
  unfold altsF at h ⊢
  split at h
  · rename_i hc
    rw [if_pos hc]
    have ht := goes_ok (alts_goes hgo n _ _) h
    have hb := alt_okv hgo hex _ ht
    have ih := alts_okv n _ _ h ((wfA_app _ _).2 ⟨ha, hb.1⟩)
    rw [wvA_app] at ih
    have h5 := hb.2
    simp only at h5
    exact ⟨ih.1, by omega⟩
  · rename_i hc
    rw [if_neg hc]
    exact ⟨ha, Nat.le_refl _⟩
theorem choice_okv : OkV L (choiceF L ex) := fun s h => by
 unfold choiceF at h ⊢
 simp only at h ⊢
 split at h
 · rename_i hc
   rw [if_pos hc]
   have h2 := need_ok hc.1
   have h3 := need_ok h2.1
   have hx := hex _ h3.1
   simp only at hx ⊢
   simp only [wfE, wfK, wfB, wfA, wvE, wvK, wvB, wvA, List.length_nil, show ¬ (7 : Nat) = 4 by decide, if_false]
   exact ⟨⟨.inr (.inr (.inr (.inr (.inr (.inr (.inl ⟨rfl, rfl, rfl, rfl, rfl, rfl, rfl⟩)))))), ⟨hx.1, trivial⟩, trivial, trivial⟩, by omega⟩
 · rename_i hc
   rw [if_neg hc]
   have h1 := need_ok h
   have h4 := goes_ok (alts_goes hgo _ _ _) h1.1
   have ha := alt_okv hgo hex _ h4
   have hl := alts_okv hgo hex _ _ _ h1.1 ha.1
   have h2 := need_ok (goes_ok (alt_goes hgo _) h4)
   have h3 := need_ok h2.1
   have hx := hex _ h3.1
   simp only at hx hl ha ⊢
   simp only [wfE, wfK, wfB, wvE, wvK, wvB, List.length_nil, show ¬ (7 : Nat) = 4 by decide, if_false]
   exact ⟨⟨.inr (.inr (.inr (.inr (.inr (.inr (.inl ⟨rfl, rfl, rfl, rfl, rfl, rfl, rfl⟩)))))), ⟨hx.1, trivial⟩, trivial, hl.1⟩, by omega⟩
theorem let_okv : OkV L (letF L ex) := fun s h => by
 unfold letF at h ⊢
 simp only at h ⊢
 have hx := hex _ h
 have h1 := need_ok (goes_ok (hgo _) h)
 have h4 := goes_ok (binds_goes hgo _ _ _) h1.1
 have ha := bind_okv hgo hex _ h4
 have hl := binds_okv hgo hex _ _ _ h1.1 ha.1
 simp only at hx hl ha ⊢
 simp only [wfE, wfK, wfA, wvE, wvK, wvA, List.length_nil, show ¬ (6 : Nat) = 4 by decide, if_false]
 exact ⟨⟨.inr (.inr (.inr (.inr (.inr (.inl ⟨rfl, rfl, rfl, rfl, rfl, hl.2.2 (by simp), rfl, rfl⟩))))), ⟨hx.1, trivial⟩, hl.1, trivial⟩, by omega⟩
theorem lam_okv : OkV L (lamF L ex) := fun s h => by
 unfold lamF at h ⊢
 simp only at h ⊢
 have hx := hex _ h
 have h1 := need_ok (goes_ok (hgo _) h)
 have hl := names_ok _ _ _ _ h1.1
 have hne := hl.2.2.2 (by trivial) (by unfold fuelP; omega)
 simp only at hx hl ⊢
 simp only [List.length_nil, Nat.zero_add] at hl hne
 simp only [wfE, wfK, wfB, wfA, wvE, wvK, wvB, wvA, List.length_nil, show ¬ (8 : Nat) = 4 by decide, if_false]
 exact ⟨⟨.inr (.inr (.inr (.inr (.inr (.inr (.inr ⟨rfl, rfl, rfl, rfl, rfl, fun q => by rw [q] at hne; simp at hne, fun x hx2 => (hl.1 x hx2).resolve_left (by simp), rfl, rfl⟩)))))), ⟨hx.1, trivial⟩, trivial, trivial⟩, by omega⟩
theorem op_okv : OkV L (opF L ex) := fun s h => by
 unfold opF at h ⊢
 simp only at h ⊢
 split at h
 · rename_i hc
   rw [if_pos hc]
   have h2 := row_okv hgo hex _ h
   have h3 := goes_ok (row_goes hgo _) h
   have h4 := token_ok2 (k := 4) (by decide) h3
   have h5 := token_text (k := 4) (by decide) h3
   have h6 := row_okv hgo hex _ h4.1
   simp only [wfE, wfK, wfB, wfA, wvE, wvK, wvB, wvA, List.length_nil, show ¬ (5 : Nat) = 4 by decide, if_false]
   exact ⟨⟨.inr (.inr (.inr (.inr (.inl ⟨rfl, .inr ⟨h5, rfl⟩, rfl, rfl, rfl, rfl, rfl⟩)))), ⟨h6.1, h2.1, trivial⟩, trivial, trivial⟩, by omega⟩
 · rename_i hc
   rw [if_neg hc]
   exact row_okv hgo hex _ h
theorem step_okv : OkV L (exprStep L ex) := fun s h => by
 unfold exprStep at h ⊢
 split at h
 · rename_i hc; exact absurd h hc
 · rename_i hc
   rw [if_neg hc]
   split at h
   · rename_i h1; rw [if_pos h1]; exact let_okv hgo hex _ h
   · rename_i h1
     rw [if_neg h1]
     split at h
     · rename_i h2; rw [if_pos h2]; exact choice_okv hgo hex _ h
     · rename_i h2
       rw [if_neg h2]
       split at h
       · rename_i h3; rw [if_pos h3]; exact lam_okv hgo hex _ h
       · rename_i h3; rw [if_neg h3]; exact op_okv hgo hex _ h
omit hgo hex
theorem expr_okv (L : List TokV) : ∀ d, OkV L (exprF L d)
 | 0 => fun s h => by
  unfold exprF at h ⊢
  split at h
  · rename_i hc; exact absurd h hc
  · exact absurd h (fault_bad (by decide))
 | d + 1 => fun s h => by
  unfold exprF at h ⊢
  exact step_okv (expr_goes L d) (expr_okv L d) s h
theorem mod_okv (L : List TokV) : ∀ (n : Nat) (m : TM) (s : PS), (modF L n m s).2.e = 0 → wfB L m.binds →
 wfB L (modF L n m s).1.binds ∧ wvB (modF L n m s).1.binds + s.at_ ≤ wvB m.binds + (modF L n m s).2.at_
 | 0, m, s, h, ha => ⟨ha, Nat.le_refl _⟩
 | n + 1, m, s, h, ha => by
  unfold modF at h ⊢
  split at h
  · rename_i hc
    rw [if_pos hc]
    split at h
    · rename_i hd
      rw [if_pos hd]
      have ih := mod_okv L n _ _ h ha
      have g := ((Goes.step hc.2).trans (data_goes_ L (fuelP L) [] _)).trans (need_goes [59] _)
      have := g.up
      simp only at ih ⊢
      exact ⟨ih.1, by omega⟩
    · rename_i hd
      rw [if_neg hd]
      have ht := need_ok (goes_ok (mod_goes L n _ _) h)
      have hb := bind_okv (expr_goes L 200) (expr_okv L 200) _ ht.1
      have ih := mod_okv L n _ _ h ((wfB_app _ _).2 ⟨ha, hb.1⟩)
      rw [wvB_app] at ih
      simp only at ih ⊢
      exact ⟨ih.1, by omega⟩
  · rename_i hc
    rw [if_neg hc]
    exact ⟨ha, Nat.le_refl _⟩
theorem tokens_okv (L : List TokV) : wfB L (tokensF L).1.binds ∧ wvB (tokensF L).1.binds ≤ L.length := by
 unfold tokensF
 simp only
 split
 · exact ⟨trivial, Nat.zero_le _⟩
 · rename_i h
   have h0 := mod_okv L (fuelP L) ⟨[], []⟩ ⟨0, 0, 0⟩ (by simpa using h) trivial
   have h1 := (mod_goes L (fuelP L) ⟨[], []⟩ ⟨0, 0, 0⟩).le (Nat.zero_le _)
   simp only [wvB] at h0
   exact ⟨h0.1, by show wvB (modF L (fuelP L) ⟨[], []⟩ ⟨0, 0, 0⟩).1.binds ≤ _; omega⟩
theorem parse_okv (s : List UInt8) : wfB (lexF s).toks (parseF s).1.binds ∧ wvB (parseF s).1.binds ≤ (lexF s).toks.length := by
 unfold parseF
 split
 · exact ⟨trivial, Nat.zero_le _⟩
 · exact tokens_okv _
end
section
variable {L : List TokV}
theorem isT_len (hL : ∀ t ∈ L, t.text.length ≤ 5000) {k : Int} {n : List UInt8} (h : isT L k n) : n.length ≤ 5000 := by
 obtain ⟨t, ht, _, rfl⟩ := h
 exact hL t ht
theorem lenS_le (hL : ∀ t ∈ L, t.text.length ≤ 5000) {k : Int} : ∀ {ps : List (List UInt8)}, (∀ x ∈ ps, isT L k x) → lenS ps ≤ 5002 * ps.length
 | [], _ => Nat.le_refl _
 | x :: l, h => by
  have h1 := isT_len hL (h x (by simp))
  have h2 := lenS_le hL (ps := l) (fun y hy => h y (by simp [hy]))
  rw [lenS_cons, List.length_cons]
  omega
theorem z_gen {a b c d n C K : Nat} (h1 : a + 8 + C ≤ K * c) (h2 : b + C * n ≤ K * d) : a + 8 + b + C * (n + 1) ≤ K * (c + d) := by
 rw [Nat.mul_add, Nat.mul_add, Nat.mul_one]
 omega
mutual
theorem zE_le (hL : ∀ t ∈ L, t.text.length ≤ 5000) : ∀ e : TE, wfE L e → zE e + 5080 ≤ 10160 * wvE e
 | .mk k n fl bi ps ks bs al, h => by
  unfold wfE at h
  obtain ⟨hs, hk, hb, ha⟩ := h
  have ik := zK_le hL ks hk
  have ib := zB_le hL bs hb
  have ia := zA_le hL al ha
  unfold zE wvE
  unfold shE at hs
  have l0 : lenS ([] : List (List UInt8)) = 0 := rfl
  rcases hs with ⟨rfl, q, _, _, rfl, rfl, rfl, rfl⟩ | ⟨rfl, q, _, _, rfl, rfl, rfl⟩ | ⟨rfl, rfl, _, rfl, rfl, rfl, rfl⟩ | ⟨rfl, rfl, _, _, hl, rfl, rfl, rfl⟩ | ⟨rfl, q, _, _, rfl, rfl, rfl⟩ | ⟨rfl, rfl, _, _, _, _, rfl, rfl⟩ | ⟨rfl, rfl, _, _, _, rfl, rfl⟩ | ⟨rfl, rfl, _, _, _, _, q, rfl, rfl⟩
  · have := isT_len hL q
    simp only [zK, zB, zA, wvK, wvB, wvA, l0, List.length_nil, show ¬ (1 : Nat) = 4 by decide, if_false] at *
    omega
  · have := isT_len hL q
    simp only [zB, zA, wvB, wvA, l0, List.length_nil, show ¬ (2 : Nat) = 4 by decide, if_false] at *
    omega
  · simp only [zK, zB, zA, wvK, wvB, wvA, l0, List.length_nil, show ¬ (3 : Nat) = 4 by decide, if_false] at *
    omega
  · simp only [zB, zA, wvB, wvA, l0, List.length_nil, if_true] at *
    omega
  · have : n.length ≤ 5000 := by
     rcases q with q | q
     · exact isT_len hL q
     · exact isT_len hL q.1
    simp only [zB, zA, wvB, wvA, l0, List.length_nil, show ¬ (5 : Nat) = 4 by decide, if_false] at *
    omega
  · simp only [zA, wvA, l0, List.length_nil, show ¬ (6 : Nat) = 4 by decide, if_false] at *
    omega
  · simp only [zB, wvB, l0, List.length_nil, show ¬ (7 : Nat) = 4 by decide, if_false] at *
    omega
  · have := lenS_le hL q
    simp only [zB, zA, wvB, wvA, List.length_nil, show ¬ (8 : Nat) = 4 by decide, if_false] at *
    omega
theorem zK_le (hL : ∀ t ∈ L, t.text.length ≤ 5000) : ∀ l : List TE, wfK L l → zK l + 5072 * l.length ≤ 10160 * wvK l
 | [], _ => by unfold zK wvK; simp
 | e :: l, h => by
  unfold wfK at h
  have h1 := zE_le hL e h.1
  have h2 := zK_le hL l h.2
  exact z_gen (C := 5072) (K := 10160) (by rw [Nat.add_assoc]; exact h1) h2
theorem zB_le (hL : ∀ t ∈ L, t.text.length ≤ 5000) : ∀ l : List TB, wfB L l → zB l ≤ 10160 * wvB l
 | [], _ => by unfold zB wvB; simp
 | .mk n ps e :: l, h => by
  unfold wfB at h
  have h1 := zE_le hL e h.1.2.2
  have h2 := zB_le hL l h.2
  have h3 := isT_len hL h.1.1
  have h4 := lenS_le hL h.1.2.1
  unfold zB wvB
  omega
theorem zA_le (hL : ∀ t ∈ L, t.text.length ≤ 5000) : ∀ l : List TA, wfA L l → zA l ≤ 10160 * wvA l
 | [], _ => by unfold zA wvA; simp
 | .mk k n fl bi ns e :: l, h => by
  unfold wfA at h
  have h1 := zE_le hL e h.1.2
  have h2 := zA_le hL l h.2
  have h3 : n.length + lenS ns ≤ 5000 + 5002 * ns.length := by
   rcases h.1.1 with q | q | q
   · have := isT_len hL q.2.1
     have := lenS_le hL q.2.2.2.2
     omega
   · rw [q.2.1, q.2.2.2]
     simp [lenS_nil]
   · have := isT_len hL q.2.1
     rw [q.2.2.2.2, lenS_nil]
     simp
     omega
  unfold zA wvA
  omega
end
end
-- what a token is
theorem refV_shape (s : List UInt8) : ∃ (f : Bool) (b : Nat) (e : Int), refV s = .tuple #[.agg #[.bool f, .int .u64 (b : Int)], .int .i64 e] ∧ b < 18446744073709551616 := by
 have h0 : ∀ (m : Bool) (d t : List UInt8), ∃ (f : Bool) (b : Nat) (e : Int), parseV m d t = .tuple #[.agg #[.bool f, .int .u64 (b : Int)], .int .i64 e] ∧ b < 18446744073709551616 := fun m d t => by
  unfold parseV resV
  split
  · split
    · exact ⟨false, 0, _, rfl, by decide⟩
    · split
      · exact ⟨false, _, _, rfl, Nat.mod_lt _ (by decide)⟩
      · split
        · exact ⟨false, 0, _, rfl, by decide⟩
        · exact ⟨false, _, _, rfl, by omega⟩
  · exact ⟨false, 0, _, rfl, by decide⟩
 unfold refV
 split
 · unfold bitsV
   split
   · rename_i h
     refine ⟨true, _, _, rfl, ?_⟩
     unfold hexB at h
     simp only [Bool.and_eq_true, List.all_eq_true, decide_eq_true_eq, beq_iff_eq] at h
     have hd : ∀ c ∈ s.drop 2, dgt c < 16 := fun c hc => by
      have := h.1 c hc
      omega
     have := numB_lt 16 (s.drop 2) hd
     rw [h.2] at this
     exact this
   · exact ⟨false, 0, _, rfl, by decide⟩
 · split
   · exact h0 _ _ _
   · exact h0 _ _ _
theorem numOf_bits (s : List UInt8) : (numOf s).2.1 < 18446744073709551616 := by
 obtain ⟨f, b, e, h, hb⟩ := refV_shape s
 rw [numOf_of h]
 exact hb
def tokS (t : TokV) : Prop := t.bits < 18446744073709551616 ∧ (t.kind = 7 → t.text ≠ [] ∧ lowF t.text = true) ∧ (t.kind = 4 → t.text ≠ [])
theorem one_tokS (l : List UInt8) (ln : Nat) (h : (oneF l ln).2 = 0) : tokS (oneF l ln).1 := by
 have hne : (oneF l ln).1.text ≠ [] := fun z => by
  have := (oneF_pre l ln h).2.1
  rw [z] at this
  simp at this
 have hb : ∀ x ∈ backsL, lowF x = true := by decide
 have h3 : ∀ t : List UInt8, tokS (numberF t ln).1 := fun t => ⟨numOf_bits _, fun q => absurd (show (3 : Int) = 7 from q) (by decide), fun q => absurd (show (3 : Int) = 4 from q) (by decide)⟩
 have h0 : tokS (none_ ln) := ⟨by show 0 < 18446744073709551616; decide, fun q => absurd (show (0 : Int) = 7 from q) (by decide), fun q => absurd (show (0 : Int) = 4 from q) (by decide)⟩
 refine ⟨?_, fun q => ⟨hne, ?_⟩, fun _ => hne⟩
 · unfold oneF
   split
   · exact h0.1
   · split
     · show 0 < 18446744073709551616; decide
     · split
       · exact (h3 _).1
       · split
         · split
           · split
             · exact h0.1
             · exact (h3 _).1
           · split
             · exact h0.1
             · exact (h3 _).1
         · split
           · show 0 < 18446744073709551616; decide
           · split
             · exact h0.1
             · show 0 < 18446744073709551616; decide
 · unfold oneF at q ⊢
   split at q
   · exact absurd (show (0 : Int) = 7 from q) (by decide)
   · split at q
     · rename_i hc
       simp only [if_pos hc]
       refine hb _ ?_
       simp only [kindF] at q
       split at q
       · exact absurd q (by decide)
       · split at q
         · rename_i hm; exact hm
         · split at q
           · exact absurd q (by decide)
           · exact absurd q (by decide)
     · split at q
       · exact absurd (show (3 : Int) = 7 from q) (by decide)
       · split at q
         · split at q
           · split at q
             · exact absurd (show (0 : Int) = 7 from q) (by decide)
             · exact absurd (show (3 : Int) = 7 from q) (by decide)
           · split at q
             · exact absurd (show (0 : Int) = 7 from q) (by decide)
             · exact absurd (show (3 : Int) = 7 from q) (by decide)
         · split at q
           · exact absurd (show (6 : Int) = 7 from q) (by decide)
           · split at q
             · exact absurd (show (0 : Int) = 7 from q) (by decide)
             · exact absurd (show (4 : Int) = 7 from q) (by decide)
theorem lexG_all {P : TokV → Prop} (hP : ∀ l ln, (oneF l ln).2 = 0 → P (oneF l ln).1) (f : Nat) (acc : List TokV) (l : List UInt8) (ln : Nat) (ha : ∀ t ∈ acc, P t) : ∀ t ∈ (lexG f acc l ln).toks, P t := by
 induction f generalizing acc l ln with
 | zero => exact ha
 | succ f ih =>
  by_cases hl : l = []
  · subst hl; rw [lexG_end]; exact ha
  · by_cases he : (oneF l ln).2 = 0
    · by_cases hf : acc.length = 4096
      · rw [lexG_full hl he hf]
        exact fun t ht => by simp at ht
      · rw [lexG_more hl he hf]
        refine ih _ _ _ (fun t ht => ?_)
        rcases List.mem_append.1 ht with q | q
        · exact ha t q
        · obtain rfl : t = (oneF l ln).1 := by simpa using q
          exact hP l ln he
    · rw [lexG_bad hl he]
      exact fun t ht => by simp at ht
theorem lexF_tokS (s : List UInt8) : ∀ t ∈ (lexF s).toks, tokS t := by
 unfold lexF
 exact lexG_all one_tokS _ [] _ _ (fun t ht => by simp at ht)
mutual
def svE : TE → Prop
 | .mk k n fl bi ps ks bs al => (bi < 18446744073709551616 ∧ 1 ≤ k ∧ k ≤ 8 ∧ (k = 4 → 1 ≤ ks.length) ∧ (k = 5 → n ≠ [] ∧ (lowF n = true ∨ ks.length = 2)) ∧ (k = 6 ∨ k = 7 ∨ k = 8 → ks.length = 1) ∧ (k = 8 → ps ≠ [])) ∧ svK ks ∧ svB bs ∧ svA al
def svK : List TE → Prop
 | [] => True
 | e :: l => svE e ∧ svK l
def svB : List TB → Prop
 | [] => True
 | .mk n ps e :: l => svE e ∧ svB l
def svA : List TA → Prop
 | [] => True
 | .mk k n fl bi ns e :: l => (bi < 18446744073709551616 ∧ svE e) ∧ svA l
end
section
variable {L : List TokV}
theorem isN_bits (hL : ∀ t ∈ L, tokS t) {f : Bool} {b : Nat} (h : isN L f b) : b < 18446744073709551616 := by
 obtain ⟨t, ht, _, _, rfl⟩ := h
 exact (hL t ht).1
mutual
theorem wf_sv (hL : ∀ t ∈ L, tokS t) : ∀ e : TE, wfE L e → svE e
 | .mk k n fl bi ps ks bs al, h => by
  unfold wfE at h
  obtain ⟨hs, hk, hb, ha⟩ := h
  have ik := wf_svK hL ks hk
  have ib := wf_svB hL bs hb
  have ia := wf_svA hL al ha
  unfold svE
  unfold shE at hs
  rcases hs with ⟨rfl, q, _, rfl, rfl, rfl, rfl, rfl⟩ | ⟨rfl, q, _, rfl, rfl, rfl, rfl⟩ | ⟨rfl, rfl, q, rfl, rfl, rfl, rfl⟩ | ⟨rfl, rfl, _, rfl, hl, rfl, rfl, rfl⟩ | ⟨rfl, q, _, rfl, rfl, rfl, rfl⟩ | ⟨rfl, rfl, _, rfl, hl, _, rfl, rfl⟩ | ⟨rfl, rfl, _, rfl, hl, rfl, rfl⟩ | ⟨rfl, rfl, _, rfl, hl, hp, q, rfl, rfl⟩
  · exact ⟨⟨by decide, by decide, by decide, fun z => by omega, fun z => by omega, fun z => by omega, fun z => by omega⟩, ik, ib, ia⟩
  · exact ⟨⟨by decide, by decide, by decide, fun z => by omega, fun z => by omega, fun z => by omega, fun z => by omega⟩, ik, ib, ia⟩
  · exact ⟨⟨isN_bits hL q, by decide, by decide, fun z => by omega, fun z => by omega, fun z => by omega, fun z => by omega⟩, ik, ib, ia⟩
  · exact ⟨⟨by decide, by decide, by decide, fun z => by omega, fun z => by omega, fun z => by omega, fun z => by omega⟩, ik, ib, ia⟩
  · refine ⟨⟨by decide, by decide, by decide, fun z => by omega, fun _ => ?_, fun z => by omega, fun z => by omega⟩, ik, ib, ia⟩
    rcases q with q | q
    · obtain ⟨t, ht, hk, rfl⟩ := q
      exact ⟨((hL t ht).2.1 hk).1, .inl ((hL t ht).2.1 hk).2⟩
    · obtain ⟨⟨t, ht, hk, rfl⟩, q2⟩ := q
      exact ⟨(hL t ht).2.2 hk, .inr q2⟩
  · exact ⟨⟨by decide, by decide, by decide, fun z => by omega, fun z => by omega, fun _ => hl, fun z => by omega⟩, ik, ib, ia⟩
  · exact ⟨⟨by decide, by decide, by decide, fun z => by omega, fun z => by omega, fun _ => hl, fun z => by omega⟩, ik, ib, ia⟩
  · exact ⟨⟨by decide, by decide, by decide, fun z => by omega, fun z => by omega, fun _ => hl, fun _ => hp⟩, ik, ib, ia⟩
theorem wf_svK (hL : ∀ t ∈ L, tokS t) : ∀ l : List TE, wfK L l → svK l
 | [], _ => trivial
 | e :: l, h => by
  unfold wfK at h
  exact ⟨wf_sv hL e h.1, wf_svK hL l h.2⟩
theorem wf_svB (hL : ∀ t ∈ L, tokS t) : ∀ l : List TB, wfB L l → svB l
 | [], _ => trivial
 | .mk n ps e :: l, h => by
  unfold wfB at h
  exact ⟨wf_sv hL e h.1.2.2, wf_svB hL l h.2⟩
theorem wf_svA (hL : ∀ t ∈ L, tokS t) : ∀ l : List TA, wfA L l → svA l
 | [], _ => trivial
 | .mk k n fl bi ns e :: l, h => by
  unfold wfA at h
  refine ⟨⟨?_, wf_sv hL e h.1.2⟩, wf_svA hL l h.2⟩
  rcases h.1.1 with q | q | q
  · rw [q.2.2.2.1]; decide
  · exact isN_bits hL q.2.2.1
  · rw [q.2.2.2.1]; decide
end
end
theorem svK_mem : ∀ {ks : List TE} {e : TE}, svK ks → e ∈ ks → svE e
 | [], _, _, h => by simp at h
 | x :: l, e, h, hm => by
  rcases List.mem_cons.1 hm with q | q
  · exact q ▸ h.1
  · exact svK_mem h.2 q
theorem svB_mem : ∀ {bs : List TB} {b : TB}, svB bs → b ∈ bs → svE b.body
 | [], _, _, h => by simp at h
 | .mk n p e :: l, b, h, hm => by
  rcases List.mem_cons.1 hm with q | q
  · rw [q]; exact h.1
  · exact svB_mem h.2 q
theorem svA_mem : ∀ {al : List TA} {a : TA}, svA al → a ∈ al → a.bits < 18446744073709551616 ∧ svE a.body
 | [], _, _, h => by simp at h
 | .mk k n fl bi ns e :: l, a, h, hm => by
  rcases List.mem_cons.1 hm with q | q
  · rw [q]; exact h.1
  · exact svA_mem h.2 q
theorem zK_mem : ∀ {ks : List TE} {e : TE}, e ∈ ks → zE e + 8 ≤ zK ks
 | [], _, h => by simp at h
 | x :: l, e, hm => by
  unfold zK
  rcases List.mem_cons.1 hm with q | q
  · rw [q]; omega
  · have := zK_mem q; omega
theorem zB_mem : ∀ {bs : List TB} {b : TB}, b ∈ bs → zE b.body + 32 + b.name.length + lenS b.params ≤ zB bs
 | [], _, h => by simp at h
 | .mk n p e :: l, b, hm => by
  unfold zB
  rcases List.mem_cons.1 hm with q | q
  · rw [q]; simp only [TB.body, TB.name, TB.params]; omega
  · have := zB_mem q; omega
theorem zA_mem : ∀ {al : List TA} {a : TA}, a ∈ al → zE a.body + 64 + a.name.length + lenS a.names ≤ zA al
 | [], _, h => by simp at h
 | .mk k n fl bi ns e :: l, a, hm => by
  unfold zA
  rcases List.mem_cons.1 hm with q | q
  · rw [q]; simp only [TA.body, TA.name, TA.names]; omega
  · have := zA_mem q; omega
theorem src_show (s : List UInt8) (hs : s.length ≤ 5000) : svB (parseF s).1.binds ∧ zB (parseF s).1.binds ≤ 41615360 := by
 have h1 := parse_okv s
 have h2 := lexF_texts s
 refine ⟨wf_svB (lexF_tokS s) _ h1.1, ?_⟩
 have h3 := zB_le (L := (lexF s).toks) (fun t ht => Nat.le_trans (h2 t ht) hs) _ h1.1
 have h4 := lexF_size8 s
 omega
def hexd (n : Nat) : UInt8 := if n < 10 then UInt8.ofNat (48 + n) else UInt8.ofNat (87 + n)
def hexL (n : Nat) : List UInt8 := if n < 16 then [hexd n] else hexL (n / 16) ++ [hexd (n % 16)]
termination_by n
decreasing_by omega
theorem hexL_lt {n : Nat} (h : n < 16) : hexL n = [hexd n] := by rw [hexL, if_pos h]
theorem hexL_ge {n : Nat} (h : 16 ≤ n) : hexL n = hexL (n / 16) ++ [hexd (n % 16)] := by rw [hexL, if_neg (by omega)]
theorem hex_at (k : Nat) (h : k < 16) (h' : k < (⟨#[48, 49, 50, 51, 52, 53, 54, 55, 56, 57, 97, 98, 99, 100, 101, 102, 103, 104, 105, 106, 107, 108, 109, 110, 111, 112, 113, 114, 115, 116, 117, 118, 119, 120, 121, 122]⟩ : ByteArray).size) : (⟨#[48, 49, 50, 51, 52, 53, 54, 55, 56, 57, 97, 98, 99, 100, 101, 102, 103, 104, 105, 106, 107, 108, 109, 110, 111, 112, 113, 114, 115, 116, 117, 118, 119, 120, 121, 122]⟩ : ByteArray)[k]'h' = hexd k := by
 match k, h with
 | 0, _ | 1, _ | 2, _ | 3, _ | 4, _ | 5, _ | 6, _ | 7, _ | 8, _ | 9, _ | 10, _ | 11, _ | 12, _ | 13, _ | 14, _ | 15, _ => rfl
 | k + 16, h => omega
theorem wrap_u64 (a : Nat) (ha : a < 18446744073709551616) : IntKind.u64.wrap (a : Int) = (a : Int) := by
 simp [IntKind.wrap, IntKind.signed, IntKind.bits]; omega
theorem and_15 (v : Nat) (h : v < 18446744073709551616) : bits BinOp.and IntKind.u64 (v : Int) 15 = ((v % 16 : Nat) : Int) := by
 show IntKind.u64.wrap ((BitVec.ofInt 64 (v : Int) &&& BitVec.ofInt 64 15).toNat : Int) = _
 have e : (BitVec.ofInt 64 (v : Int)).toNat = v := by rw [BitVec.ofInt_natCast, BitVec.toNat_ofNat]; exact Nat.mod_eq_of_lt (by omega)
 have e' : (BitVec.ofInt 64 15).toNat = 2 ^ 4 - 1 := by decide
 rw [BitVec.toNat_and, e, e', Nat.and_two_pow_sub_one_eq_mod, wrap_u64 _ (by omega)]
def printF (b : Nat) : List UInt8 := [48, 102] ++ List.replicate (16 - (hexL b).length) 48 ++ hexL b
theorem hexL_len (k : Nat) : ∀ n : Nat, 1 ≤ k → n < 16 ^ k → (hexL n).length ≤ k := by
 induction k with
 | zero => intro n h; omega
 | succ k ih =>
  intro n _ h
  by_cases h16 : n < 16
  · rw [hexL_lt h16]; simp
  · rw [hexL_ge (by omega)]
    have hk : 1 ≤ k := by
     rcases Nat.eq_zero_or_pos k with rfl | q
     · omega
     · exact q
    have := ih (n / 16) hk (by rw [Nat.pow_succ] at h; omega)
    simp; omega
def digL (b n : Nat) : List UInt8 := if h : n < b ∨ b < 2 then [hexd (n % b)] else digL b (n / b) ++ [hexd (n % b)]
termination_by n
decreasing_by exact Nat.div_lt_self (by omega) (by omega)
theorem digL_lt {b n : Nat} (h : n < b) : digL b n = [hexd n] := by rw [digL, dif_pos (.inl h), Nat.mod_eq_of_lt h]
theorem digL_ge {b n : Nat} (hb : 2 ≤ b) (h : b ≤ n) : digL b n = digL b (n / b) ++ [hexd (n % b)] := by rw [digL, dif_neg (by omega)]
theorem digL_len (b k : Nat) (hb : 2 ≤ b) : ∀ n : Nat, 1 ≤ k → n < b ^ k → (digL b n).length ≤ k := by
 induction k with
 | zero => intro n h; omega
 | succ k ih =>
  intro n _ h
  by_cases hn : n < b
  · rw [digL_lt hn]; simp
  · rw [digL_ge hb (by omega)]
    have hk : 1 ≤ k := by
     rcases Nat.eq_zero_or_pos k with rfl | q
     · simp at h; omega
     · exact q
    have := ih (n / b) hk (by rw [Nat.pow_succ] at h; exact (Nat.div_lt_iff_lt_mul (by omega)).2 h)
    simp; omega
theorem digL16 (n : Nat) : digL 16 n = hexL n := by
 induction n using Nat.strongRecOn with
 | _ n ih =>
  by_cases h : n < 16
  · rw [digL_lt h, hexL_lt h]
  · rw [digL_ge (by omega) (by omega), hexL_ge (by omega), ih (n / 16) (by omega)]
theorem hexd_dec (k : Nat) (h : k < 10) : hexd k = UInt8.ofNat (48 + k) := by unfold hexd; rw [if_pos h]
theorem digL10 (n : Nat) : digL 10 n = Lib.decDigits n := by
 induction n using Nat.strongRecOn with
 | _ n ih =>
  rw [Lib.decDigits]
  by_cases h : n < 10
  · rw [digL_lt h, dif_pos h, hexd_dec n h]
  · rw [digL_ge (by omega) (by omega), dif_neg h, ih (n / 10) (by omega), hexd_dec _ (by omega)]
theorem dgt_hexd (k : Nat) (h : k < 16) : dgt (hexd k) = k := by
 have key : ∀ k, k < 16 → dgt (hexd k) = k := by decide +kernel
 exact key k h
theorem digL_mem (b : Nat) (hb : 2 ≤ b) (hb' : b ≤ 16) (n : Nat) : ∀ c ∈ digL b n, dgt c < b := by
 induction n using Nat.strongRecOn with
 | _ n ih =>
  intro c hc
  by_cases h : n < b
  · rw [digL_lt h] at hc
    simp at hc
    rw [hc, dgt_hexd n (by omega)]
    exact h
  · rw [digL_ge hb (by omega)] at hc
    have hm := Nat.mod_lt n (by omega : 0 < b)
    simp at hc
    rcases hc with hc | rfl
    · exact ih (n / b) (Nat.div_lt_self (by omega) (by omega)) c hc
    · rw [dgt_hexd _ (by omega)]; exact hm
theorem numB_digL (b : Nat) (hb : 2 ≤ b) (hb' : b ≤ 16) (n : Nat) : numB b (digL b n) = n := by
 induction n using Nat.strongRecOn with
 | _ n ih =>
  by_cases h : n < b
  · rw [digL_lt h]
    show 0 * b + dgt (hexd n) = n
    rw [dgt_hexd n (by omega)]; omega
  · rw [digL_ge hb (by omega), numB_snoc, ih (n / b) (Nat.div_lt_self (by omega) (by omega))]
    have hm := Nat.mod_lt n (by omega : 0 < b)
    rw [dgt_hexd _ (by omega), Nat.mul_comm]
    exact Nat.div_add_mod n b
theorem digL_ne (b n : Nat) (hb : 2 ≤ b) : digL b n ≠ [] := by
 by_cases h : n < b
 · rw [digL_lt h]; simp
 · rw [digL_ge hb (by omega)]; simp
theorem digL_head (b : Nat) (hb : 2 ≤ b) (hb' : b ≤ 16) (n : Nat) (hn : 0 < n) : ∃ k, 0 < k ∧ k < b ∧ (digL b n).head? = some (hexd k) := by
 induction n using Nat.strongRecOn with
 | _ n ih =>
  by_cases h : n < b
  · exact ⟨n, hn, h, by rw [digL_lt h]; rfl⟩
  · obtain ⟨k, k0, k1, hk⟩ := ih (n / b) (Nat.div_lt_self (by omega) (by omega)) (Nat.div_pos (by omega) (by omega))
    refine ⟨k, k0, k1, ?_⟩
    rw [digL_ge hb (by omega)]
    cases hd : digL b (n / b) with
    | nil => exact absurd hd (digL_ne b _ hb)
    | cons c l => rw [hd] at hk; exact hk
theorem numB_zeros (b k : Nat) (l : List UInt8) : numB b (List.replicate k 48 ++ l) = numB b l := by
 induction k with
 | zero => rfl
 | succ k ih =>
  rw [List.replicate_succ, List.cons_append]
  have d0 : dgt 48 = 0 := by decide
  unfold numB at *
  rw [List.foldl_cons, d0]
  simpa using ih
def printN (f : Bool) (x : Nat) : List UInt8 := if f then printF x else Lib.itoa (wrap64 (x : Int))
def numRes (f : Bool) (b : Nat) : Value := .tuple #[.agg #[.bool f, .int .u64 (b : Int)], .int .i64 0]
theorem back_flt (x : Nat) (hx : x < 18446744073709551616) : refV (printF x) = numRes true x := by
 have hl := digL_len 16 16 (by omega) x (by omega) (by simpa using hx)
 unfold printF
 rw [← digL16]
 unfold refV
 have ht : ([48, 102] ++ List.replicate (16 - (digL 16 x).length) (48 : UInt8) ++ digL 16 x).take 2 = [48, 102] := rfl
 have hd : ([48, 102] ++ List.replicate (16 - (digL 16 x).length) (48 : UInt8) ++ digL 16 x).drop 2 = List.replicate (16 - (digL 16 x).length) 48 ++ digL 16 x := rfl
 rw [if_pos ht, hd]
 have hB : hexB (List.replicate (16 - (digL 16 x).length) 48 ++ digL 16 x) = true := by
  unfold hexB
  rw [Bool.and_eq_true]
  refine ⟨List.all_eq_true.2 fun c hc => ?_, by simp; omega⟩
  simp at hc
  rcases hc with ⟨_, rfl⟩ | hc
  · decide
  · have := digL_mem 16 (by omega) (by omega) x c hc
    simp; omega
 unfold bitsV
 rw [hB, if_pos rfl, numB_zeros, numB_digL 16 (by omega) (by omega)]
 rfl
theorem decB_digL (n : Nat) : decB (digL 10 n) = true := decB_all fun c hc => by have := digL_mem 10 (by omega) (by omega) n c hc; omega
theorem isEmpty_digL (b n : Nat) (hb : 2 ≤ b) : (digL b n).isEmpty = false := by
 cases h : digL b n with
 | nil => exact absurd h (digL_ne b n hb)
 | cons c l => rfl
theorem head_not48 (n : Nat) (hn : 0 < n) : ((digL 10 n).head? == some 48) = false := by
 obtain ⟨k, k0, k1, hk⟩ := digL_head 10 (by omega) (by omega) n hn
 rw [hk]
 have key : ∀ k, k < 10 → 0 < k → (some (hexd k) == some (48 : UInt8)) = false := by decide +kernel
 exact key k k1 k0
theorem back_int (x : Nat) (hx : x < 18446744073709551616) : refV (Lib.itoa (wrap64 (x : Int))) = numRes false x := by
 by_cases h : x < 9223372036854775808
 · have hw : Lib.itoa (wrap64 (x : Int)) = digL 10 x := by
    rw [show wrap64 (x : Int) = (x : Int) by unfold wrap64; omega, digL10]
    unfold Lib.itoa
    rw [if_neg (by omega)]; rfl
   rw [hw]
   unfold refV
   have hm := digL_mem 10 (by omega) (by omega) x
   rw [if_neg (by
    intro q
    have h2 : (102 : UInt8) ∈ (digL 10 x).take 2 := by rw [q]; simp
    have := hm 102 (List.mem_of_mem_take h2)
    exact absurd this (by decide))]
   rw [if_neg (by
    intro q
    have := hm 45 (List.mem_of_mem_head? q)
    exact absurd this (by decide))]
   have hf : formB (digL 10 x) (digL 10 x) = true := by
    unfold formB
    rw [decB_digL, isEmpty_digL 10 x (by omega)]
    rcases Nat.eq_zero_or_pos x with rfl | hp
    · rw [digL_lt (by omega)]; decide
    · rw [head_not48 x hp]; rfl
   unfold parseV
   rw [hf, if_pos rfl, numB_digL 10 (by omega) (by omega), if_neg (by omega), if_neg (by simp), if_neg (by omega)]
   rfl
 · obtain ⟨y, hy⟩ : ∃ y, 18446744073709551616 - x = y := ⟨_, rfl⟩
   have hw : Lib.itoa (wrap64 (x : Int)) = 45 :: digL 10 y := by
    rw [show wrap64 (x : Int) = -(y : Int) by unfold wrap64; omega, digL10]
    unfold Lib.itoa
    rw [if_pos (by omega), Int.natAbs_neg]; rfl
   rw [hw]
   unfold refV
   rw [if_neg (by intro q; have := congrArg List.head? q; simp at this), if_pos (show (45 :: digL 10 y).head? = some 45 from rfl)]
   have hd : (45 :: digL 10 y).drop 1 = digL 10 y := rfl
   rw [hd]
   have hf : formB (digL 10 y) (45 :: digL 10 y) = true := by
    unfold formB
    rw [decB_digL, isEmpty_digL 10 y (by omega), head_not48 y (by omega)]; rfl
   unfold parseV
   rw [hf, if_pos rfl, numB_digL 10 (by omega) (by omega), if_neg (by omega), if_pos rfl]
   unfold resV numRes
   rw [show (18446744073709551616 - y) % 18446744073709551616 = x by omega]
def srcN (f : Bool) (x : Nat) : List UInt8 := if (printN f x).head? = some 45 then 35 :: printN f x else printN f x
theorem dgt_word {c : UInt8} (h : dgt c < 16) : wordC c = true := by
 have key : ∀ n : Nat, n < 256 → dgt (UInt8.ofNat n) < 16 → wordC (UInt8.ofNat n) = true := by decide +kernel
 have := key c.toNat c.toNat_lt
 rw [UInt8.ofNat_toNat] at this
 exact this h
theorem dgt_dig {c : UInt8} (h : dgt c < 10) : digC c = true := by
 have key : ∀ n : Nat, n < 256 → dgt (UInt8.ofNat n) < 10 → digC (UInt8.ofNat n) = true := by decide +kernel
 have := key c.toNat c.toNat_lt
 rw [UInt8.ofNat_toNat] at this
 exact this h
theorem printN_f (x : Nat) : printN false x = Lib.itoa (wrap64 (x : Int)) := by unfold printN; rw [if_neg (by simp)]
theorem printN_t (x : Nat) : printN true x = printF x := by unfold printN; rw [if_pos rfl]
theorem numOf_back (f : Bool) (x : Nat) (hx : x < 18446744073709551616) : numOf (printN f x) = (f, x, 0) := by
 refine numOf_of ?_
 cases f
 · rw [printN_f, back_int x hx]; rfl
 · rw [printN_t, back_flt x hx]; rfl
theorem num_shape (f : Bool) (x : Nat) (hx : x < 18446744073709551616) : ShapeT 1 ⟨3, srcN f x, f, x, 1⟩ ∧ ((printN f x).head? = some 45 → f = false) := by
 have hb := numOf_back f x hx
 have plain : ∀ (c : UInt8) (r : List UInt8), printN f x = c :: r → digC c = true → (∀ y ∈ c :: r, wordC y = true) → ShapeT 1 ⟨3, srcN f x, f, x, 1⟩ ∧ ((printN f x).head? = some 45 → f = false) := by
  intro c r e hc hr
  have h45 : ¬ (printN f x).head? = some 45 := by
   rw [e]; intro q; simp at q; subst q; exact absurd hc (by decide)
  have h35 : hashOff (c :: r) = c :: r := by
   unfold hashOff
   rw [if_neg (by intro q; simp at q; subst q; exact absurd hc (by decide))]
  refine ⟨?_, fun q => absurd q h45⟩
  unfold srcN
  rw [if_neg h45]
  rw [e] at hb ⊢
  have hv : numberF (c :: r) 1 = (⟨3, c :: r, f, x, 1⟩, 0) := by
   unfold numberF
   rw [h35, hb]
  have := ShapeT.num (ln := 1) c r hc hr (by rw [hv])
  rw [hv] at this
  exact this
 cases f with
 | true =>
  have e : printN true x = 48 :: (102 :: (List.replicate (16 - (digL 16 x).length) 48 ++ digL 16 x)) := by
   rw [printN_t]
   unfold printF
   rw [← digL16]
   rfl
  refine plain _ _ e (by decide) (fun y hy => ?_)
  rcases List.mem_cons.1 hy with rfl | hy
  · decide
  · rcases List.mem_cons.1 hy with rfl | hy
    · decide
    · rcases List.mem_append.1 hy with q | q
      · rw [List.eq_of_mem_replicate q]; decide
      · exact dgt_word (digL_mem 16 (by omega) (by omega) x y q)
 | false =>
  have e0 := printN_f x
  have hd : ∀ y : Nat, ∃ c r, digL 10 y = c :: r ∧ digC c = true ∧ ∀ z ∈ c :: r, wordC z = true := by
   intro y
   have hm := digL_mem 10 (by omega) (by omega) y
   cases h : digL 10 y with
   | nil => exact absurd h (digL_ne 10 y (by omega))
   | cons c r =>
    rw [h] at hm
    exact ⟨c, r, rfl, dgt_dig (hm c List.mem_cons_self), fun z hz => digit_word (dgt_dig (hm z hz))⟩
  by_cases h : x < 9223372036854775808
  · have hw : Lib.itoa (wrap64 (x : Int)) = digL 10 x := by
     rw [show wrap64 (x : Int) = (x : Int) by unfold wrap64; omega, digL10]
     unfold Lib.itoa
     rw [if_neg (by omega)]; rfl
    obtain ⟨c, r, e, hc, hr⟩ := hd x
    exact plain c r (by rw [e0, hw, e]) hc hr
  · obtain ⟨y, hy⟩ : ∃ y, 18446744073709551616 - x = y := ⟨_, rfl⟩
    have hw : Lib.itoa (wrap64 (x : Int)) = 45 :: digL 10 y := by
     rw [show wrap64 (x : Int) = -(y : Int) by unfold wrap64; omega, digL10]
     unfold Lib.itoa
     rw [if_pos (by omega), Int.natAbs_neg]; rfl
    refine ⟨?_, fun _ => rfl⟩
    obtain ⟨c, r, e, hc, hr⟩ := hd y
    rw [e0, hw, e] at hb
    unfold srcN
    rw [e0, hw, e, if_pos (show (45 :: c :: r).head? = some 45 from rfl)]
    have hv : numberF (35 :: 45 :: c :: r) 1 = (⟨3, 35 :: 45 :: c :: r, false, x, 1⟩, 0) := by
     unfold numberF
     have h35 : hashOff (35 :: 45 :: c :: r) = 45 :: c :: r := rfl
     rw [h35, hb]
    have := ShapeT.minus (ln := 1) (c :: r) (by simp) hr (by rw [hv])
    rw [hv] at this
    exact this
def prF (f : Bool) (b : Nat) : List UInt8 := if f = true then printF (b % 18446744073709551616) else Lib.itoa (wrap64 (b : Int))
theorem dec_head : ∀ n : Nat, ∀ c ∈ Lib.decDigits n, 48 ≤ c.toNat := fun n => by
 induction n using Nat.strongRecOn with
 | _ n ih =>
  intro c hc
  rw [Lib.decDigits] at hc
  have hd : ∀ k : Nat, k < 10 → 48 ≤ (UInt8.ofNat (48 + k)).toNat := by decide
  split at hc
  · rename_i h
    rw [List.mem_singleton] at hc
    rw [hc]
    exact hd n h
  · rename_i h
    rcases List.mem_append.1 hc with q | q
    · exact ih (n / 10) (by omega) c q
    · rw [List.mem_singleton] at q
      rw [q]
      exact hd (n % 10) (by omega)
theorem prF_int (b : Nat) : prF false b = Lib.itoa (wrap64 (b : Int)) := if_neg (by decide)
theorem prF_flt {b : Nat} (hb : b < 18446744073709551616) : prF true b = printF b := by
 unfold prF
 rw [if_pos rfl, Nat.mod_eq_of_lt hb]
theorem numT_low {b : Nat} (h : b < 9223372036854775808) : numT (prF false b) = Lib.itoa (wrap64 (b : Int)) := by
 rw [prF_int]
 have e : Lib.itoa (wrap64 (b : Int)) = Lib.decDigits b := by
  rw [show wrap64 (b : Int) = (b : Int) by unfold wrap64; omega]
  unfold Lib.itoa
  rw [if_neg (by omega)]
  rfl
 rw [e]
 unfold numT
 refine if_neg (fun hq => ?_)
 have hm : (45 : UInt8) ∈ Lib.decDigits b := List.mem_of_mem_head? hq
 have := dec_head _ _ hm
 exact absurd this (by decide)
theorem itoa_high {b : Nat} (h : 9223372036854775808 ≤ b) (hb : b < 18446744073709551616) : Lib.itoa (wrap64 (b : Int)) = 45 :: Lib.decDigits (18446744073709551616 - b) := by
 obtain ⟨y, hy⟩ : ∃ y, 18446744073709551616 - b = y := ⟨_, rfl⟩
 rw [hy, show wrap64 (b : Int) = -(y : Int) by unfold wrap64; omega]
 unfold Lib.itoa
 rw [if_pos (by omega), Int.natAbs_neg]
 rfl
theorem prF_len1 (f : Bool) (b : Nat) (hb : b < 18446744073709551616) : (prF f b).length ≤ 22 := by
 have h1 : ∀ y : Nat, y < 18446744073709551616 → (Lib.decDigits y).length ≤ 20 := fun y hy => by
  have h := digL_len 10 20 (by omega) y (by omega) (by omega)
  rw [digL10] at h
  exact h
 cases f with
 | true =>
  have h := hexL_len 16 b (by omega) (by simpa using hb)
  rw [prF_flt hb]
  unfold printF
  simp
  omega
 | false =>
  rw [prF_int]
  by_cases h : b < 9223372036854775808
  · have e : Lib.itoa (wrap64 (b : Int)) = Lib.decDigits b := by
     rw [show wrap64 (b : Int) = (b : Int) by unfold wrap64; omega]
     unfold Lib.itoa
     rw [if_neg (by omega)]
     rfl
    have := h1 b hb
    rw [e]
    omega
  · have := h1 (18446744073709551616 - b) (by omega)
    rw [itoa_high (by omega) hb, List.length_cons]
    omega
theorem prF_len (f : Bool) (b : Nat) : (prF f b).length ≤ 22 := by
 have e : prF f b = prF f (b % 18446744073709551616) := by
  unfold prF
  rw [Nat.mod_mod, show wrap64 ((b % 18446744073709551616 : Nat) : Int) = wrap64 (b : Int) by unfold wrap64; omega]
 rw [e]
 exact prF_len1 f _ (Nat.mod_lt _ (by decide))
theorem sadd (x y : List UInt8) (h : x.length + y.length ≤ 1000000000000) (w : World) : (Op.stringOp .add ⟨x.toArray⟩ ⟨y.toArray⟩).run Tryz.prog w = .ok (.string ⟨(x ++ y).toArray⟩) w := by
 rw [run_string_add_sum w _ _ (by simp [ByteArray.size]; omega), ByteArray.mk_append_mk]
theorem swE_le {e : TE} (h : zE e ≤ 50000000) : (swE prF e).length ≤ 50000000 := Nat.le_trans (swE_len prF prF_len e) h
theorem swK_at {l : List TE} {j : Nat} (h : j < l.length) (h' : j < (swK prF l).length) : (swK prF l)[j] = atomT l[j] (swE prF l[j]) := by
 simp [swK_map]
theorem swK_length (l : List TE) : (swK prF l).length = l.length := by rw [swK_map, List.length_map]
theorem in_szK {e : TE} : ∀ {ks : List TE}, e ∈ ks → szE e ≤ szK ks
 | x :: l, h => by
  have e1 : szK (x :: l) = szE x + szK l := rfl
  rcases List.mem_cons.1 h with q | q
  · subst q; omega
  · have := in_szK q; omega
theorem in_szB {b : TB} : ∀ {bs : List TB}, b ∈ bs → szE b.body ≤ szB bs
 | .mk n p e :: l, h => by
  have e1 : szB (.mk n p e :: l) = szE e + szB l := rfl
  rcases List.mem_cons.1 h with q | q
  · subst q; show szE e ≤ _; omega
  · have := in_szB q; omega
theorem in_szA {a : TA} : ∀ {al : List TA}, a ∈ al → szE a.body ≤ szA al
 | .mk k n f b p e :: l, h => by
  have e1 : szA (.mk k n f b p e :: l) = szE e + szA l := rfl
  rcases List.mem_cons.1 h with q | q
  · subst q; show szE e ≤ _; omega
  · have := in_szA q; omega
section
variable {L : List TokV}
theorem data_ar : ∀ (n : Nat) (acc : List (List UInt8 × Nat)) (s : PS), (dataF L n acc s).2.e = 0 → (∀ d ∈ acc, d.2 ≤ 24) → ∀ d ∈ (dataF L n acc s).1, d.2 ≤ 24
 | 0, acc, s, _, h => h
 | n + 1, acc, s, he, h => by
  unfold dataF at he ⊢
  by_cases hc : s.e = 0 ∧ kindP L s = 2
  · rw [if_pos hc] at he ⊢
    simp only at he ⊢
    refine data_ar n _ _ he (fun d hd => ?_)
    rcases List.mem_append.1 hd with q | q
    · exact h d q
    · rw [List.mem_singleton] at q
      rw [q]
      have hu := goes_ok (data_goes_ L n _ _) he
      obtain ⟨s1, hs1⟩ : ∃ s1, (if kindP L (tokenF L 2 s).2 = 3 then (if (L[(tokenF L 2 s).2.at_]?.getD (none_ 0)).flt = true ∨ 24 < (L[(tokenF L 2 s).2.at_]?.getD (none_ 0)).bits then faultF L 1 (tokenF L 2 s).2 else (tokenF L 2 s).2) else (tokenF L 2 s).2) = s1 := ⟨_, rfl⟩
      rw [hs1] at hu ⊢
      have hk : s1.e = 0 ∧ kindP L s1 = 3 := by
       unfold tokenF at hu
       by_cases q : s1.e = 0 ∧ kindP L s1 = 3
       · exact q
       · rw [if_neg q] at hu
         exact absurd hu (fault_bad (by decide))
      have hv : (tokenF L 3 s1).1 = L[s1.at_]?.getD (none_ 0) := by unfold tokenF; rw [if_pos hk]
      show (tokenF L 3 s1).1.bits ≤ 24
      rw [hv]
      by_cases k3 : kindP L (tokenF L 2 s).2 = 3
      · rw [if_pos k3] at hs1
        by_cases hb : (L[(tokenF L 2 s).2.at_]?.getD (none_ 0)).flt = true ∨ 24 < (L[(tokenF L 2 s).2.at_]?.getD (none_ 0)).bits
        · rw [if_pos hb] at hs1
          have := hk.1
          rw [← hs1] at this
          exact absurd this (fault_bad (by decide))
        · rw [if_neg hb] at hs1
          rw [← hs1]
          omega
      · rw [if_neg k3] at hs1
        rw [hs1] at k3
        exact absurd hk.2 k3
  · rw [if_neg hc]
    exact h
theorem mod_ar : ∀ (n : Nat) (m : TM) (s : PS), (modF L n m s).2.e = 0 → (∀ d ∈ m.cons, d.2 ≤ 24) → ∀ d ∈ (modF L n m s).1.cons, d.2 ≤ 24
 | 0, m, s, _, h => h
 | n + 1, m, s, he, h => by
  unfold modF at he ⊢
  split at he
  · rename_i hc
    rw [if_pos hc]
    split at he
    · rename_i hd
      rw [if_pos hd]
      refine mod_ar n _ _ he (fun d hx => ?_)
      rcases List.mem_append.1 hx with q | q
      · exact h d q
      · have h1 := goes_ok (mod_goes L n _ _) he
        have h2 := (need_ok h1).1
        exact data_ar _ _ _ h2 (fun d hd => by simp at hd) d q
    · rename_i hd
      rw [if_neg hd]
      exact mod_ar n _ _ he h
  · rename_i hc
    rw [if_neg hc]
    exact h
end
theorem parse_ar (s : List UInt8) : ∀ d ∈ (parseF s).1.cons, d.2 ≤ 1000000 := by
 unfold parseF
 split
 · intro d hd; simp at hd
 · show ∀ d ∈ (tokensF (lexF s).toks).1.cons, _
   unfold tokensF
   simp only
   split
   · intro d hd; simp at hd
   · rename_i hz
     have he : (modF (lexF s).toks (fuelP (lexF s).toks) ⟨[], []⟩ ⟨0, 0, 0⟩).2.e = 0 := Classical.not_not.1 hz
     intro d hd
     have := mod_ar _ _ _ he (fun d hd => by simp at hd) d hd
     omega
theorem dec_len (y : Nat) (hy : y ≤ 1000000) : (Lib.decDigits y).length ≤ 20 := by
 have h := digL_len 10 20 (by omega) y (by omega) (by omega)
 rw [digL10] at h
 exact h
def conT (d : List UInt8 × Nat) : List UInt8 := [32] ++ d.1 ++ [32] ++ Lib.decDigits d.2
def conR (cs : List (List UInt8 × Nat)) : List UInt8 := [100, 97, 116, 97] ++ (cs.map conT).flatten
theorem consT_ne {cs : List (List UInt8 × Nat)} (h : cs ≠ []) : consT cs = conR cs ++ [59, 10] := by
 unfold consT
 rw [if_neg h]
 rfl
theorem conR_snoc (cs : List (List UInt8 × Nat)) (d : List UInt8 × Nat) : conR (cs ++ [d]) = conR cs ++ [32] ++ d.1 ++ [32] ++ Lib.decDigits d.2 := by
 unfold conR
 rw [List.map_append, List.flatten_append, List.map_singleton, List.flatten_singleton]
 simp [conT]
theorem conR_take {cs : List (List UInt8 × Nat)} {j : Nat} (h : j < cs.length) : conR (cs.take (j + 1)) = conR (cs.take j) ++ [32] ++ cs[j].1 ++ [32] ++ Lib.decDigits cs[j].2 := by
 rw [List.take_succ_eq_append_getElem h, conR_snoc]
theorem conR_len : ∀ cs : List (List UInt8 × Nat), (∀ d ∈ cs, d.1.length ≤ 5000) → (∀ d ∈ cs, d.2 ≤ 1000000) → (conR cs).length ≤ 4 + 5030 * cs.length
 | [], _, _ => by decide
 | d :: l, h1, h2 => by
  have e : conR (d :: l) = [100, 97, 116, 97] ++ (conT d ++ (l.map conT).flatten) := rfl
  have ih := conR_len l (fun x hx => h1 x (by simp [hx])) (fun x hx => h2 x (by simp [hx]))
  have i1 := h1 d (by simp)
  have i2 := dec_len d.2 (h2 d (by simp))
  have e2 : (conR l).length = 4 + ((l.map conT).flatten).length := by unfold conR; rw [List.length_append]; rfl
  have e3 : (conT d).length = 2 + d.1.length + (Lib.decDigits d.2).length := by unfold conT; simp; omega
  rw [e, List.length_append, List.length_append, e3, List.length_cons, List.length_cons, List.length_cons, List.length_cons, List.length_cons, List.length_nil]
  omega
theorem bindsT_app (pr : Bool → Nat → List UInt8) (a b : List TB) : bindsT pr (a ++ b) = bindsT pr a ++ bindsT pr b := by
 unfold bindsT
 simp
theorem bindsT_snoc (pr : Bool → Nat → List UInt8) (bs : List TB) (b : TB) : bindsT pr (bs ++ [b]) = bindsT pr bs ++ swB1 pr b ++ [59, 10] := by
 unfold bindsT
 simp
theorem bindsT_take (pr : Bool → Nat → List UInt8) {bs : List TB} {j : Nat} (h : j < bs.length) : bindsT pr (bs.take (j + 1)) = bindsT pr (bs.take j) ++ swB1 pr bs[j] ++ [59, 10] := by
 rw [List.take_succ_eq_append_getElem h, bindsT_snoc]
theorem bindsT_lenS (pr : Bool → Nat → List UInt8) : ∀ bs : List TB, (bindsT pr bs).length = lenS (swB pr bs)
 | [] => rfl
 | b :: l => by
  have ih := bindsT_lenS pr l
  have e : bindsT pr (b :: l) = (swB1 pr b ++ [59, 10]) ++ bindsT pr l := by unfold bindsT; simp
  have e2 : swB pr (b :: l) = swB1 pr b :: swB pr l := by rw [swB_map, swB_map]; rfl
  rw [e, e2, lenS_cons, List.length_append, List.length_append, ih]
  rfl
theorem bindsT_len (bs : List TB) : (bindsT prF bs).length ≤ zB bs := by
 rw [bindsT_lenS]
 exact swB_len prF prF_len bs
theorem lenS_takeB {bs : List TB} {j : Nat} (h : j < bs.length) : (bindsT prF (bs.take j)).length + (swB1 prF bs[j]).length + 2 ≤ zB bs := by
 have h1 : ∀ l : List TB, lenS (swB prF l) = (bindsT prF l).length := fun l => (bindsT_lenS prF l).symm
 have h2 := bindsT_len bs
 have h4 : (bindsT prF bs).length = (bindsT prF (bs.take (j + 1))).length + (bindsT prF (bs.drop (j + 1))).length := by
  rw [← List.length_append, ← bindsT_app, List.take_append_drop]
 rw [bindsT_take prF h] at h4
 simp only [List.length_append, List.length_cons, List.length_nil] at h4
 omega
structure SvM (m : TM) : Prop where
 sv : svB m.binds
 z : zB m.binds ≤ 50000000
 nm : ∀ d ∈ m.cons, d.1.length ≤ 5000
 ar : ∀ d ∈ m.cons, d.2 ≤ 1000000
 len : m.cons.length ≤ 100000
theorem SvM.conL {m : TM} (h : SvM m) : (conR m.cons).length ≤ 504000000 := by
 have := conR_len m.cons h.nm h.ar
 have := h.len
 omega
theorem SvM.conR_at {m : TM} (h : SvM m) {j : Nat} (hj : j < m.cons.length) : (conR (m.cons.take j)).length ≤ 504000000 ∧ m.cons[j].1.length ≤ 5000 ∧ (Lib.decDigits m.cons[j].2).length ≤ 20 := by
 have h1 := conR_len (m.cons.take j) (fun d hd => h.nm d (List.mem_of_mem_take hd)) (fun d hd => h.ar d (List.mem_of_mem_take hd))
 have h2 : (m.cons.take j).length ≤ m.cons.length := by rw [List.length_take]; omega
 have := h.len
 exact ⟨by omega, h.nm _ (List.getElem_mem hj), dec_len _ (h.ar _ (List.getElem_mem hj))⟩
section
variable {w : World} {ca ba : Option Addr} {nc cc nb bc : Nat} {m : TM}
end
end Go.Proofs.YtlnmicddobgppaaGreatDoor
