/-
  Package ring: the iterator over the cells. Conditions: cells lie within the words.
-/
import Derived.Test.YtlpdlhmdhlcdlaaRing5
import Derived.Sort.LoopGhostIn
namespace Go.Proofs.Ytlpdlhmdhlcdlaa
set_option linter.unusedSimpArgs false
set_option linter.unusedVariables false
open Go.RowKit Go.Shelf
attribute [local go_sem] Oper.semAt_some

/-- Cells with their places. -/
def ixs : Nat → List Nat → List (Nat × Nat)
  | _, [] => []
  | i, c :: r => (i, c) :: ixs (i + 1) r
theorem ixs_app : ∀ (A : List Nat) (i : Nat) (B : List Nat), ixs i (A ++ B) = ixs i A ++ ixs (i + A.length) B
  | [], i, B => by simp [ixs]
  | c :: A, i, B => by
    rw [List.cons_append, ixs, ixs, ixs_app A (i + 1) B, List.cons_append, List.length_cons]
    congr 2
    rw [show i + 1 + A.length = i + (A.length + 1) by omega]
theorem RingOf.step {l : List Int} {n f b c : Nat} {S : Seg4} {pre rest : List Nat} (h : RingOf l n f b S) (e : S.all = pre ++ c :: rest) : nth l (c + 1) = (headN (rest ++ S.all) : Int) ∧ c + 3 ≤ n := by
  have hc := h.cyc
  have hi := h.cin
  rw [e] at hc hi
  have h1 := cyc_next (cyc_rot.1 hc)
  refine ⟨?_, (hi.le c (by simp)).2⟩
  rw [h1, e]
  cases rest with
  | nil => simp
  | cons d r => rfl
def encP (x : Nat × Nat) : Array Value := #[.int .i64 (x.1 : Int), .int .i64 (x.2 : Int)]
set_option maxRecDepth 100000 in
set_option maxHeartbeats 4000000 in
theorem cells_walks (rg ba bw n u bx : Nat) (S : Seg4) (w : World) (U : Nat → Prop) (h : RingIs w rg ba bw n S u) (hbx : Blk w bx #[.pointer (some ⟨rg, 0, none⟩)] 24) (hu : u ≤ 900000000000) (h1 : ¬ U rg) (h2 : ¬ U ba) (h3 : ¬ U bw) (h4 : ¬ U bx) :
    Walks Try.prog 49 #[.pointer (some ⟨bx, 0, none⟩)] encP (fun k => k = ba) U (fun W => ∃ u', RingIs W rg ba bw n S u' ∧ u' ≤ u + 100000) (ixs 0 S.all) w := by
  intro l J W hW hJ hY h0
  obtain ⟨ll, f, b, h, hO⟩ := h
  obtain ⟨q1, q2, q3⟩ := h.ne
  have hrl := h.blk.lt
  have hal := h.ar.box.lt
  have hwl := h.ar.words.lt
  have hbl := hbx.lt
  have hl := h.hl
  have hn := hO.len
  have hnum := hO.num
  have hne' := hbx.apart h.ar.box (by decide)
  have hne2 := S.num_eq
  unfold Seg4.num at hnum
  obtain ⟨c0, c1, c2, c3, c4, c5, c6, cz, clt⟩ := (h.fr hW (fun q => q) (fun q => q) (fun q => q)).facts
  have bb := (hW.blk hbx (fun q => q)).cell 0
  have bl := (hW.blk hbx (fun q => q)).lt
  simp at bb
  obtain ⟨N, hN⟩ : ∃ N, S.all.length = N := ⟨_, rfl⟩
  have HH := Lib.hid (And.intro h (And.intro hO (And.intro hN (And.intro hbx hW))))
  have hsum : S.W.length + (S.F.length + S.G.length + S.B.length) = N := by rw [← hN, hne2]; rfl
  have hNn : N ≤ 100000 := by omega
  have HSUM := Lib.hid hsum
  have HJ := Lib.hid (And.intro hJ (And.intro hY h0))
  clear h hO hbx hJ hY h0 hsum hne2 hN hnum
  refine callsIn_of_wp Try.func49 rfl trivial ?_ rfl
  simp only [Try.ntmps49, List.size_toArray, List.length_cons, List.length_nil, Nat.reduceAdd, Nat.reduceSub, Array.replicate_succ, Array.replicate_zero, List.push_toArray, List.append_toArray, List.nil_append, List.cons_append]
  gi_wp2_with (refine ⟨trivial, ?_⟩; gi_at_call 32; refine (callsIn_wide.2 (rall_any rg ba bw ll u f b _ _ _ _ _ (HH.out.1.fr hW (fun q => q) (fun q => q) (fun q => q)) (by have := HSUM.out; omega))).mono ?_; rw [HSUM.out]; rintro e w1 ⟨rfl, f1⟩)
  gi_loopg [3, 11] N (fun g cv kv wr => ∃ (pre rest : List Nat) (u' cc : Nat), g = rest.length ∧ Hid (S.all = pre ++ rest) ∧ kv = .int .i64 (pre.length : Int) ∧ cv = .int .i64 (cc : Int) ∧ Hid (S.all ≠ [] → cc = headN (rest ++ S.all)) ∧ Hid (RingRec wr rg ba bw ll u' f b S.W.length S.F.length S.G.length S.B.length ∧ u' ≤ u + pre.length ∧ J (ixs 0 pre) wr ∧ Blk wr bx #[.pointer (some ⟨rg, 0, none⟩)] 24))
  case atStart =>
    refine ⟨[], S.all, u, f, HH.out.2.2.1.symm, Lib.hid rfl, rfl, rfl, Lib.hid (fun q => ?_), Lib.hid ⟨HH.out.1.fr (S := Nil) (hW.comp f1) (fun q => q) (fun q => q) (fun q => q), by simp, HJ.out.1 _ _ _ HJ.out.2.2 f1.of_nil, (hW.comp f1).blk HH.out.2.2.2.1 (fun q => q)⟩⟩
    rw [(HH.out.2.1.ends q).1]
    obtain ⟨a, r, e⟩ := num_head q
    rw [e]
    rfl
  case round =>
    obtain ⟨pre, rest, u', cc, rfl, HE, rfl, rfl, HC, HS⟩ := hrel
    obtain ⟨d0, d1, d2, d3, d4, d5, d6, dz, dlt⟩ := HS.out.1.facts
    have bb := HS.out.2.2.2.cell 0
    have bl := HS.out.2.2.2.lt
    simp at bb
    have hlen : pre.length + rest.length = N := by
      have := congrArg List.length HE.out
      rw [List.length_append, HH.out.2.2.1] at this
      omega
    cases rest with
    | nil =>
      have i1 : ¬ (pre.length : Int) < (N : Int) := by simp at hlen; omega
      have hfin : Hid (J (ixs 0 S.all) wr) := by
        have e : S.all = pre := by rw [HE.out]; simp
        rw [e]
        exact Lib.hid HS.out.2.2.1
      gi_wp2
      go_end0
      exact ⟨⟨_, rfl⟩, hfin.out, u', ⟨ll, f, b, HS.out.1, HH.out.2.1⟩, by have := HS.out.2.1; simp at hlen; omega⟩
    | cons c rest =>
      have hne : S.all ≠ [] := by rw [HE.out]; simp
      have hcc : cc = c := HC.out hne
      subst hcc
      have hul : u' < 1000000000000 := by
        have := HS.out.2.1
        simp at hlen
        omega
      have i1 : (pre.length : Int) < (N : Int) := by simp at hlen; omega
      obtain ⟨hnx, hc3⟩ := HH.out.2.1.step HE.out
      have HNX := Lib.hid hnx
      have hxs : ixs 0 S.all = ixs 0 pre ++ (pre.length, cc) :: ixs (pre.length + 1) rest := by
        rw [HE.out, ixs_app, Nat.zero_add]
        rfl
      have HXS := Lib.hid hxs
      obtain ⟨fn, tmps, assign, body, hy, hR⟩ := HJ.out.2.1 (ixs 0 pre) (pre.length, cc) _ wr hxs HS.out.2.2.1
      simp only [encP] at hy
      have HRR := Lib.hid hR
      clear hnx hxs hR
      gi_wp2
      refine HRR.out.mono ?_
      rintro e W3 ⟨rfl, hJ3, hf3⟩
      have hrec3 : RingRec W3 rg ba bw ll u' f b S.W.length S.F.length S.G.length S.B.length := HS.out.1.fr hf3 (fun q => q.elim h1 (fun q => by omega)) (fun q => q.elim h2 (fun q => by omega)) (fun q => q.elim h3 (fun q => by omega))
      have hbx3 := hf3.blk HS.out.2.2.2 (fun q => q.elim h4 (fun q => by omega))
      have H3 := Lib.hid (And.intro hrec3 (And.intro hbx3 hJ3))
      have bb3 := hbx3.cell 0
      have bl3 := hbx3.lt
      simp at bb3
      clear hrec3 hbx3 hJ3 hf3 d0 d1 d2 d3 d4 d5 d6 dz dlt bb bl hy
      gi_wp2_with (refine ⟨trivial, ?_⟩; gi_at_call 37; refine (callsIn_wide.2 (rnext_any rg ba bw ll u' f b _ _ _ _ _ H3.out.1 cc (by rw [HH.out.2.1.len]; exact hc3) hul)).mono ?_; rw [HNX.out]; rintro e w4 ⟨rfl, h4, f4⟩)
      gi_roundg rest.length
      case rel =>
        refine ⟨pre ++ [cc], rest, u' + 1, _, rfl, Lib.hid (by rw [HE.out]; simp), by first | rfl | simp, rfl, Lib.hid (fun _ => rfl), Lib.hid ⟨h4, by have := HS.out.2.1; simp; omega, ?_, f4.blk H3.out.2.1 (fun q => hne' q)⟩⟩
        have := HJ.out.1 _ _ _ H3.out.2.2 f4
        rw [ixs_app, Nat.zero_add]
        exact this
      case measure => simp
end Go.Proofs.Ytlpdlhmdhlcdlaa
