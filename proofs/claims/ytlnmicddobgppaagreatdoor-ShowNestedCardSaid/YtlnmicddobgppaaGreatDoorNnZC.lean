/-
  The program shows every expression and every module. Conditions: the tables that Go's library reads.
-/
import Derived.Test.YtlnmicddobgppaaGreatDoorShelf
import Derived.Test.YtlnmicddobgppaaGreatDoorNnZB
import Derived.Test.YtlnmicddobgppaaGreatDoorNnA
namespace Go.Proofs.YtlnmicddobgppaaGreatDoor
set_option maxRecDepth 100000
set_option maxHeartbeats 4000000
set_option linter.unusedSimpArgs false
set_option linter.unusedVariables false
open Go.RowKit
theorem ps_all : ∀ (n : Nat) (e : TE), szE e ≤ n → PsOk e
 | 0, .mk k nm fl bi ps ks bs al, hn => by
  have e1 : szE (.mk k nm fl bi ps ks bs al) = 1 + szK ks + szB bs + szA al := rfl
  omega
 | n + 1, .mk k nm fl bi ps ks bs al, hn => by
  have e1 : szE (.mk k nm fl bi ps ks bs al) = 1 + szK ks + szB bs + szA al := rfl
  have hK : ∀ e ∈ ks, PsOk e := fun e he => ps_all n e (by have := in_szK he; omega)
  have hB : ∀ x ∈ bs, PsOk x.body := fun x hx => ps_all n x.body (by have := in_szB hx; omega)
  have hA : ∀ x ∈ al, PsOk x.body := fun x hx => ps_all n x.body (by have := in_szA hx; omega)
  intro w cs h hs hz hT
  unfold svE at hs
  obtain ⟨hsf, hsk, hsb, hsa⟩ := hs
  have hz' := hz
  unfold zE at hz'
  have hzk : zK ks ≤ 50000000 := by omega
  have hnl : nm.length ≤ 50000000 := by omega
  have hk : k = 1 ∨ k = 2 ∨ k = 3 ∨ k = 4 ∨ k = 5 ∨ k = 6 ∨ k = 7 ∨ k = 8 := by have := hsf.2.1; have := hsf.2.2.1; omega
  obtain ⟨R, hR⟩ : ∃ R, swE prF (.mk k nm fl bi ps ks bs al) = R := ⟨_, rfl⟩
  rw [hR]
  rw [swE] at hR
  rcases hk with rfl | rfl | rfl | rfl | rfl | rfl | rfl | rfl
  · rw [if_pos rfl] at hR
    subst hR
    have H := fun w' (f : Fr Nil w w') => pname_any (h.frN f)
    obtain ⟨a0, c0, a1, c1, a2, c2, a3, c3, kc, bc, ac, rfl, _⟩ := h.opened
    exact pe_1 H
  · rw [if_neg (by decide), if_pos rfl] at hR
    subst hR
    have H := fun w' (f : Fr Nil w w') => pcon_any (h.frN f) hK hsk hzk (hT.fr f) hnl
    obtain ⟨a0, c0, a1, c1, a2, c2, a3, c3, kc, bc, ac, rfl, _⟩ := h.opened
    exact pe_2 H
  · rw [if_neg (by decide), if_neg (by decide), if_pos rfl] at hR
    subst hR
    have H := fun w' (f : Fr Nil w w') => pnumber_any (h.frN f) hsf.1 (hT.fr f)
    obtain ⟨a0, c0, a1, c1, a2, c2, a3, c3, kc, bc, ac, rfl, _⟩ := h.opened
    exact pe_3 H
  · rw [if_neg (by decide), if_neg (by decide), if_neg (by decide), if_pos rfl] at hR
    subst hR
    have H := fun w' (f : Fr Nil w w') => papp_any (h.frN f) hK hsk hzk (hT.fr f) (fun z => by have := hsf.2.2.2.1 rfl; rw [z] at this; simp at this)
    obtain ⟨a0, c0, a1, c1, a2, c2, a3, c3, kc, bc, ac, rfl, _⟩ := h.opened
    exact pe_4 H
  · rw [if_neg (by decide), if_neg (by decide), if_neg (by decide), if_neg (by decide), if_pos rfl] at hR
    subst hR
    have h5 := hsf.2.2.2.2.1 rfl
    cases nm with
    | nil => exact absurd rfl h5.1
    | cons ch rest =>
     have H := fun w' (f : Fr Nil w w') => pop_any (h.frN f) hK hsk hzk (hT.fr f) hnl h5.2
     obtain ⟨a0, c0, a1, c1, a2, c2, a3, c3, kc, bc, ac, rfl, _⟩ := h.opened
     exact pe_5 H
  · rw [if_neg (by decide), if_neg (by decide), if_neg (by decide), if_neg (by decide), if_neg (by decide), if_pos rfl] at hR
    subst hR
    have H := fun w' (f : Fr Nil w w') => pslet_any (h.frN f) hK hsk hzk (hT.fr f) hB hsb (by omega)
    obtain ⟨a0, c0, a1, c1, a2, c2, a3, c3, kc, bc, ac, rfl, _⟩ := h.opened
    exact pe_6 H
  · rw [if_neg (by decide), if_neg (by decide), if_neg (by decide), if_neg (by decide), if_neg (by decide), if_neg (by decide), if_pos rfl] at hR
    subst hR
    have H := fun w' (f : Fr Nil w w') => pschoice_any (h.frN f) hK hsk hzk (hT.fr f) hA hsa (by omega)
    obtain ⟨a0, c0, a1, c1, a2, c2, a3, c3, kc, bc, ac, rfl, _⟩ := h.opened
    exact pe_7 H
  · rw [if_neg (by decide), if_neg (by decide), if_neg (by decide), if_neg (by decide), if_neg (by decide), if_neg (by decide), if_neg (by decide), if_pos rfl] at hR
    subst hR
    have H := fun w' (f : Fr Nil w w') => plambda_any (h.frN f) hK hsk hzk (hT.fr f) (by omega)
    obtain ⟨a0, c0, a1, c1, a2, c2, a3, c3, kc, bc, ac, rfl, _⟩ := h.opened
    exact pe_8 H
theorem ps_any (e : TE) : PsOk e := ps_all _ e (Nat.le_refl _)
def BdAt (w : World) (B b : Nat) (v : Value) (l : List UInt8) : Prop :=
 (Blk w b #[.pointer none, v] 108 ∨ Blk w b #[.pointer (some ⟨b, 0, none⟩), v] 108) ∧ w.ownsRow B 5 1 v l.length (Lib.byteCells l) ∧ v.ownBlock ≠ some b
theorem BdAt.lt {w : World} {B b : Nat} {v : Value} {l : List UInt8} (h : BdAt w B b v l) : b < w.heap.size := by
 rcases h.1 with h | h
 · exact h.lt
 · exact h.lt
theorem BdAt.fr {S : Nat → Prop} {w w' : World} {B b : Nat} {v : Value} {l : List UInt8} (h : BdAt w B b v l) (f : Fr S w w') (hb : ¬ S b) (hv : ∀ k, v.ownBlock = some k → ¬ S k) : BdAt w' B b v l :=
 ⟨h.1.imp (fun q => f.blk q hb) (fun q => f.blk q hb), owns_frS h.2.1 f hv, h.2.2⟩
theorem BdAt.frN {w w' : World} {B b : Nat} {v : Value} {l : List UInt8} (h : BdAt w B b v l) (f : Fr Nil w w') : BdAt w' B b v l := h.fr f (fun q => q) (fun _ _ q => q)
theorem BdAt.is {w : World} {B b : Nat} {v : Value} {l : List UInt8} (h : BdAt w B b v l) (hB : B ≤ b) : Lib.IsBuilder 108 5 B b (Lib.byteCells l) w := by
 have ho : w.ownsRow B 5 1 v (Lib.byteCells l).length (Lib.byteCells l) := by rw [Lib.byteCells_length]; exact h.2.1
 exact h.1.imp (fun q => ⟨hB, v, q, ho, h.2.2⟩) (fun q => ⟨hB, v, q, ho, h.2.2⟩)
theorem BdAt.new (w : World) : BdAt (w.alloc (.cells #[.pointer none, .slice none 0 0] 108)) w.heap.size w.heap.size (.slice none 0 0) [] :=
 ⟨.inl (Blk.new _ _ _), World.ownsRow_nil _ _ _ _, by simp [Value.ownBlock]⟩
theorem bytes_app (l t : List UInt8) : Lib.byteCells l ++ Lib.strCells ⟨t.toArray⟩ = Lib.byteCells (l ++ t) := by
 simp [Lib.byteCells, Lib.strCells]
theorem infoU : (Tryz.prog.info? 5).map (fun i => (i.zero, i.size, i.bytes)) = some (some (.int .u8 0), 1, 1) := by kernel_rfl
theorem bd_shape {w : World} {B size n : Nat} {v : Value} {e : TypeId} {xs : List Value} (h : w.ownsRow B e size v n xs) : ∃ ao n' cap, v = .slice ao n' cap := by
 rcases h.2 with ⟨hv, _⟩ | ⟨g, cap, cur, hv, _⟩
 · exact ⟨_, _, _, hv⟩
 · exact ⟨_, _, _, hv⟩
theorem pcc_any {w : World} {B b : Nat} {v : Value} {l : List UInt8} (h : BdAt w B b v l) :
 Calls Tryz.prog 96 #[.pointer (some ⟨b, 0, none⟩)] w fun e w' => e = .returned (.tuple #[]) ∧ Blk w' b #[.pointer (some ⟨b, 0, none⟩), v] 108 ∧ Fr (fun k => k = b) w w' := by
 rcases h.1 with hb | hb
 · have hsh : w.shape? b = some (108, 2) := by
    have hb' : w.heap[b]? = some (.cells #[.pointer none, v] 108 (0, 0)) := hb
    simp [World.shape?, hb']
   refine (Any.Builder_copyCheck_fresh (P := Tryz.prog) (ρ := Tryz.lays156_ren) { Tryz.lays156 with } Tryz.Builder_Extra_156.toX72 b w (by have := hb.cell 0; simpa using this) hsh (hb.free 0)).mono ?_
   rintro e w' ⟨rfl, rfl⟩
   exact ⟨rfl, hb.put rfl, Fr.set (S := fun k => k = b) (Fr.refl _ _) _ _ (fun _ => rfl)⟩
 · refine (Any.Builder_copyCheck_used (P := Tryz.prog) (ρ := Tryz.lays156_ren) { Tryz.lays156 with } Tryz.Builder_Extra_156.toX72 b w (by have := hb.cell 0; simpa using this)).mono ?_
   rintro e w' ⟨rfl, rfl⟩
   exact ⟨rfl, hb, Fr.refl _ _⟩
set_option maxHeartbeats 2000000 in
theorem pws_any {w : World} {B b : Nat} {v : Value} {l t : List UInt8} (h : BdAt w B b v l) (hB : B ≤ w.heap.size) (hlen : l.length + t.length ≤ 100000000000) :
 Calls Tryz.prog 62 #[.pointer (some ⟨b, 0, none⟩), .string ⟨t.toArray⟩] w fun e w' => ∃ r v', e = .returned r ∧ BdAt w' B b v' (l ++ t) ∧ Fr (fun k => k = b ∨ v.ownBlock = some k) w w' := by
 obtain ⟨i0, hi, hz0, hz1, hz2⟩ := info_parts infoU
 have HC := Lib.hid (pcc_any h)
 have H0 := Lib.hid (And.intro h hB)
 have ht : (⟨t.toArray⟩ : ByteArray).size = t.length := by simp [ByteArray.size]
 clear h hB
 go_enter Tryz.func62, Tryz.ntmps62
 go_wp2_with fail
 refine HC.out.mono ?_
 rintro e w1 ⟨rfl, b1, f1⟩
 have ho1 := owns_frS H0.out.1.2.1 f1 (fun k q e => H0.out.1.2.2 (by rw [q]; exact congrArg some e))
 have c0 := b1.cell 0
 have c1 := b1.cell 1
 simp at c0 c1
 have bl := b1.lt
 have s1 := f1.size
 have H1 := Lib.hid (And.intro b1 (And.intro f1 ho1))
 clear HC f1 b1 ho1
 go_wp2_with (first
  | (at_builtin; refine Lib.wpList_append_own_string _ rfl _ _ 106 9 rfl B 5 i0 Tryz.underlying106 Tryz.underlying9 hi hz0 hz1 hz2 v l.length (Lib.byteCells l) rfl H1.out.2.2 ⟨t.toArray⟩ rfl (by rw [ht]; unfold maxLen; omega) (by rw [ht]; omega) (by have := H0.out.2; omega) ?_; intro v' w2 hown hg hk; have H2 := Lib.hid (And.intro hown hg); have b2 : Blk w2 b #[.pointer (some ⟨b, 0, none⟩), v] 108 := (hg.block b bl (fun e => H0.out.1.2.2 e.symm)).trans H1.out.1; have y0 := b2.cell 0; have y1 := b2.cell 1; simp at y0 y1; have yl := b2.lt; have yf := b2.free; have HB2 := Lib.hid b2; clear c0 c1 bl b2 hg hk; obtain ⟨ao, n', cap, rfl⟩ := bd_shape hown; clear hown)
  | fail)
 go_ret2
 have ho2 : w2.ownsRow B 5 1 (.slice ao n' cap) (l ++ t).length (Lib.byteCells (l ++ t)) := by
  have h := H2.out.1
  rw [ht, bytes_app] at h
  rw [List.length_append]
  exact h
 have hne := Lib.ownBlock_ne ho2 HB2.out (by decide)
 have f3 : Fr (fun k => k = b) w2 (w2.setCell ⟨b, 1, none⟩ (.slice ao n' cap)) := Fr.set (S := fun k => k = b) (Fr.refl _ _) _ _ (fun _ => rfl)
 refine ⟨_, _, rfl, ⟨.inr (HB2.out.put rfl), owns_frS ho2 f3 (fun k q e => hne (by rw [q]; exact congrArg some e)), hne⟩, ?_⟩
 have f2 : Fr (fun k => k = b ∨ v.ownBlock = some k) w w2 := Fr.grown (H1.out.2.1.mono (fun k _ q => .inl q)) H2.out.2 (fun k q _ => .inr q)
 exact f2.trans f3 (fun k _ q => .inl q)
theorem BdAt.own_ne {w : World} {B b : Nat} {v : Value} {l : List UInt8} (h : BdAt w B b v l) {D : Nat} (hD : w.heap.size ≤ D) : ¬ (D = b ∨ v.ownBlock = some D) := by
 intro q
 have hl := h.lt
 rcases q with q | q
 · omega
 · have := (h.2.1.lt D q).2; omega
theorem BdAt.wrote {w w' W1 : World} {B : Nat} {v : Value} {l : List UInt8} (h : BdAt w B B v l) (hB : B = W1.heap.size) (g : Fr Nil W1 w) (f : Fr (fun k => k = B ∨ v.ownBlock = some k) w w') : Fr Nil W1 w' :=
 g.trans f (fun k hk q => by
  rcases q with q | q
  · omega
  · have := (h.2.1.lt k q).1; omega)
theorem num_dec {b : Nat} (h : b ≤ 1000000) : numT (prF false b) = Lib.decDigits b := by
 rw [numT_low (by omega), show wrap64 (b : Int) = (b : Int) by unfold wrap64; omega]
 unfold Lib.itoa
 rw [if_neg (by omega)]
 rfl
section
variable {w : World} {ca ba : Option Addr} {nc cc nb bc : Nat} {m : TM}
set_option maxHeartbeats 8000000 in
theorem pmod_any (hm : ModV (fun _ => False) w ca nc cc ba nb bc m) (hs : SvM m) (hT : Tabs w) :
 Calls Tryz.prog 29 #[.agg #[.slice ca nc cc, .slice ba nb bc]] w fun r w' => r = .returned (.string ⟨(swM prF m).toArray⟩) ∧ Fr Nil w w' := by
 obtain ⟨T, hTs⟩ : ∃ T, w.heap.size = T := ⟨_, rfl⟩
 obtain ⟨B, hBs⟩ : ∃ B, T + 1 = B := ⟨_, rfl⟩
 obtain ⟨W1, hW1⟩ : ∃ W1, w.alloc (.cells #[.slice ca nc cc, .slice ba nb bc] 26) = W1 := ⟨_, rfl⟩
 have hB1 : B = W1.heap.size := by rw [← hW1, ← hBs, ← hTs]; simp
 obtain ⟨W2, hW2⟩ : ∃ W2, W1.alloc (.cells #[.pointer none, .slice none 0 0] 108) = W2 := ⟨_, rfl⟩
 have f1 : Fr Nil w W1 := by rw [← hW1]; exact frA
 have f12 : Fr Nil W1 W2 := by rw [← hW2]; exact frA
 have b1 : Blk W1 T #[.slice ca nc cc, .slice ba nb bc] 26 := by rw [← hW1, ← hTs]; exact Blk.new _ _ _
 have hbd : BdAt W2 B B (.slice none 0 0) [] := by rw [← hW2, hB1]; exact BdAt.new W1
 have hm1 := hm.fr f1 (fun _ q => q.elim)
 have HK2 : Hid (∀ w', Fr Nil W1 w' → w'.cell? ⟨T, 0, none⟩ = some (.slice ca nc cc) ∧ w'.cell? ⟨T, 1, none⟩ = some (.slice ba nb bc)) := Lib.hid (fun w' f => by
  have b := f.blk b1 (fun q => q)
  have z0 := b.cell 0
  have z1 := b.cell 1
  simp at z0 z1
  exact ⟨z0, z1⟩)
 obtain ⟨z0, z1⟩ := HK2.out W2 f12
 have zl := World.block_lt_of_cell? _ _ z0
 obtain ⟨cs, hb1, hb2⟩ := hm1.2.2.1
 have hnb := hm1.2.2.2
 rw [hnb] at hb1
 have hnc := hm1.2.1
 have hnb9 := hb1.lenX
 have hnc9 : nc ≤ 100000 := by rw [← hnc]; exact hs.len
 have hform : ∀ j (h : j < m.binds.length), FormB (cs j) := fun j h => (hb2 j h).formB
 have hat : ∀ j (h : j < m.binds.length), ∀ w', Fr Nil W1 w' → Calls Tryz.prog 64 #[.agg (cs j).toArray] w' fun r w2 => r = .returned (.string ⟨(swB1 prF m.binds[j]).toArray⟩) ∧ Fr Nil w' w2 := fun j h w' f =>
  pbind_of ((hb2 j h).frN f) (ps_any _) (svB_mem hs.sv (List.getElem_mem h)) (by have := zB_mem (List.getElem_mem h); have := hs.z; omega) (hT.fr (f1.comp f))
 have hTn := fun w' (f : Fr Nil W1 w') => hT.fr (f1.comp f)
 have H1 := Lib.hid (And.intro f1 (And.intro hm1 (And.intro hb1 (And.intro hform (And.intro hat (And.intro hnb (And.intro hnc (And.intro hs (And.intro hB1 hTn)))))))))
 have H2 := Lib.hid (And.intro f12 hbd)
 have hBw : ∀ w', Fr Nil W1 w' → B ≤ w'.heap.size := fun w' f => by have := f.size; omega
 have HBW := Lib.hid hBw
 clear b1 f1 hm1 hb1 hb2 hform hat hnb hnc hs hm hT hTn hbd f12 hBw hB1
 obtain ⟨S0, hS0⟩ : ∃ S0, consT m.cons = S0 := ⟨_, rfl⟩
 have l0 : S0.length ≤ 504000002 := by
  rw [← hS0]
  by_cases h : m.cons = []
  · rw [h]; decide
  · rw [consT_ne h, List.length_append]
    have := H1.out.2.2.2.2.2.2.2.1.conL
    simp
    omega
 have HS0 := Lib.hid hS0
 clear hS0
 go_enter Tryz.func29, Tryz.ntmps29
 by_cases hc0 : nc = 0
 · subst hc0
   have e0 : S0 = [] := by rw [← HS0.out, List.eq_nil_of_length_eq_zero H1.out.2.2.2.2.2.2.1]; rfl
   go_wp2_with fail
   try rw [hTs]
   try rw [hBs]
   try rw [hW1]
   try rw [hW2]
   try rw [← H1.out.2.2.2.2.2.2.2.2.1]
   clear hW1 hW2 hTs hBs z0 z1 zl
   have HX : Hid (∃ v, BdAt W2 B B v S0 ∧ Fr Nil W1 W2) := Lib.hid ⟨_, by rw [e0]; exact H2.out.2, H2.out.1⟩
   clear e0
   obtain ⟨WX, hWX⟩ : ∃ W, W = W2 := ⟨_, rfl⟩
   rw [← hWX] at HX ⊢
   clear hWX
   go_loopg [36] nb (fun g iv wr => ∃ j : Nat, g = nb - j ∧ j ≤ nb ∧ iv = .int .i64 (j : Int) ∧ Hid (∃ v, BdAt wr B B v (S0 ++ bindsT prF (m.binds.take j)) ∧ Fr Nil W1 wr))
   case atStart => exact ⟨0, rfl, by omega, rfl, Lib.hid (by rw [List.take_zero, show S0 ++ bindsT prF [] = S0 from List.append_nil _]; exact HX.out)⟩
   case round =>
    obtain ⟨j, rfl, hjn, rfl, HQ⟩ := hrel
    obtain ⟨Vr, hVr⟩ : ∃ V, V = wr := ⟨_, rfl⟩
    subst hVr
    obtain ⟨v, HV⟩ : ∃ v, Hid (BdAt Vr B B v (S0 ++ bindsT prF (m.binds.take j)) ∧ Fr Nil W1 Vr) := by
     obtain ⟨v, h⟩ := HQ.out
     exact ⟨v, Lib.hid h⟩
    clear HQ
    have j0 : (0 : Int) ≤ (j : Int) := by omega
    by_cases hlt : j < nb
    · have hjl : j < m.binds.length := by rw [H1.out.2.2.2.2.2.1]; exact hlt
      have wk : IntKind.i64.wrap ((j : Int) + 1) = (j : Int) + 1 := by rw [IntKind.wrap_i64]; omega
      have j1 : (j : Int) < (nb : Int) := by omega
      obtain ⟨b2, off2, e2, _, hc⟩ := (H1.out.2.2.1.frN HV.out.2).at hlt
      obtain ⟨xbn, xpa, xpn, xpc, xk, xnm, xfl, xbi, xa0, xn0, xc0, xa1, xn1, xc1, xa2, xn2, xc2, xa3, xn3, xc3, ec2⟩ := H1.out.2.2.2.1 j hjl
      have hat := H1.out.2.2.2.2.1 j hjl
      rw [ec2] at hc hat
      subst e2
      have x0 := hc 0 _ rfl
      have x1 := hc 1 _ rfl
      have x2 := hc 2 _ rfl
      have x3 := hc 3 _ rfl
      have x4 := hc 4 _ rfl
      have x5 := hc 5 _ rfl
      have x6 := hc 6 _ rfl
      have x7 := hc 7 _ rfl
      have x8 := hc 8 _ rfl
      have x9 := hc 9 _ rfl
      simp only [Nat.add_zero] at x0
      have xl := World.block_lt_of_cell? _ _ x0
      have hw := bindsT_take prF hjl
      have h1 := lenS_takeB hjl
      have h3 := H1.out.2.2.2.2.2.2.2.1.z
      obtain ⟨x, hx⟩ : ∃ x, swB1 prF m.binds[j] = x := ⟨_, rfl⟩
      rw [hx] at hw h1 hat
      obtain ⟨S, hS⟩ : ∃ x, S0 ++ bindsT prF (m.binds.take j) = x := ⟨_, rfl⟩
      have ls : S.length = S0.length + (bindsT prF (m.binds.take j)).length := by rw [← hS, List.length_append]
      obtain ⟨S2, hS2⟩ : ∃ y, x ++ [59, 10] = y := ⟨_, rfl⟩
      have l2 : S2.length = x.length + 2 := by rw [← hS2]; simp
      obtain ⟨S3, hS3⟩ : ∃ y, S0 ++ bindsT prF (m.binds.take (j + 1)) = y := ⟨_, rfl⟩
      have e3 : S ++ S2 = S3 := by rw [← hS3, hw, ← hS2, ← hS]; simp
      rw [hS] at HV
      have sa1 : ∀ w, (Op.stringOp .add ⟨x.toArray⟩ ⟨#[59, 10]⟩).run Tryz.prog w = .ok (.string ⟨S2.toArray⟩) w := fun w => by rw [← hS2]; exact sadd x [59, 10] (by simp; omega) w
      have lS : S.length + S2.length ≤ 100000000000 := by omega
      have HS := Lib.hid (And.intro hS3 (And.intro e3 lS))
      have HA := Lib.hid hat
      clear hS3 hat hx hc ec2 hw h1 h3 hS ls hS2 l2 e3 lS
      go_wp2_with fail
      refine (HA.out _ (HV.out.2.comp (by exact frA))).mono ?_
      rintro r w2 ⟨rfl, f2⟩
      have g2 : Fr Nil Vr w2 := Fr.comp (S := Nil) (by exact frA) f2
      have HF := Lib.hid (And.intro (HV.out.1.frN g2) (HV.out.2.comp g2))
      clear f2 g2 x0 x1 x2 x3 x4 x5 x6 x7 x8 x9 xl
      go_wp2_with fail
      refine (pws_any (l := S) (t := S2) HF.out.1 (HBW.out _ HF.out.2) HS.out.2.2).mono ?_
      rintro r w5 ⟨r5, v5, rfl, hb5, f5⟩
      have HG5 := Lib.hid (And.intro hb5 (HF.out.1.wrote H1.out.2.2.2.2.2.2.2.2.1 HF.out.2 f5))
      clear hb5 f5
      go_wp2
      go_roundg (nb - (j + 1))
      case rel => exact ⟨j + 1, rfl, by omega, rfl, Lib.hid ⟨v5, by rw [HS.out.1, ← HS.out.2.1]; exact HG5.out.1, HG5.out.2⟩⟩
      case measure => omega
    · have j1 : ¬ (j : Int) < (nb : Int) := by omega
      have e : S0 ++ bindsT prF (m.binds.take j) = swM prF m := by
       rw [List.take_of_length_le (by rw [H1.out.2.2.2.2.2.1]; omega), ← HS0.out]
       rfl
      obtain ⟨R, hR⟩ : ∃ R, swM prF m = R := ⟨_, rfl⟩
      rw [e, hR] at HV
      have HR := Lib.hid hR
      clear e hR
      have HBS := Lib.hid (Tryz.Builder_String_any B B R _ (HV.out.1.is (Nat.le_refl _)) (HBW.out _ HV.out.2))
      go_wp2_with fail
      refine HBS.out.mono ?_
      rintro r w3 ⟨rfl, bw⟩
      have f3 : Fr (fun k => B ≤ k) Vr w3 := Fr.of_below bw (fun k hk q => by omega)
      have HF : Hid (Fr Nil w w3) := Lib.hid (H1.out.1.comp (HV.out.2.trans f3 (fun k hk q => by have := H1.out.2.2.2.2.2.2.2.2.1; omega)))
      clear f3 bw
      go_wp2
      go_ret
      exact ⟨by rw [HR.out]; rfl, HF.out⟩
 · have c0 : (0 : Int) < (nc : Int) := by omega
   have c1 : 0 < nc := by omega
   have e0 : S0 = conR m.cons ++ [59, 10] := by
    rw [← HS0.out]
    exact consT_ne (fun z => hc0 (by rw [← H1.out.2.2.2.2.2.2.1, z]; rfl))
   have HE0 := Lib.hid e0
   clear e0
   go_wp2_with fail
   try rw [hTs]
   try rw [hBs]
   try rw [hW1]
   try rw [hW2]
   try rw [← H1.out.2.2.2.2.2.2.2.2.1]
   clear hW1 hW2 hTs hBs z0 z1 zl
   refine (pws_any (l := []) (t := [100, 97, 116, 97]) H2.out.2 (HBW.out _ H2.out.1) (by simp)).mono ?_
   rintro r w3 ⟨r3, v3, rfl, hb3, f3⟩
   have HX : Hid (∃ v, BdAt w3 B B v (conR (m.cons.take 0)) ∧ Fr Nil W1 w3) := Lib.hid ⟨v3, by rw [List.take_zero]; exact hb3, H2.out.2.wrote H1.out.2.2.2.2.2.2.2.2.1 H2.out.1 f3⟩
   clear hb3 f3
   obtain ⟨z0, z1⟩ := HK2.out w3 (by obtain ⟨v, _, f⟩ := HX.out; exact f)
   have zl := World.block_lt_of_cell? _ _ z0
   go_wp2_with fail
   clear z0 z1 zl
   go_loopg [16] nc (fun g iv wr => ∃ j : Nat, g = nc - j ∧ j ≤ nc ∧ iv = .int .i64 (j : Int) ∧ Hid (∃ v, BdAt wr B B v (conR (m.cons.take j)) ∧ Fr Nil W1 wr))
   case atStart => exact ⟨0, rfl, by omega, rfl, HX⟩
   case round =>
    obtain ⟨j, rfl, hjn, rfl, HQ⟩ := hrel
    obtain ⟨Vr, hVr⟩ : ∃ V, V = wr := ⟨_, rfl⟩
    subst hVr
    obtain ⟨v, HV⟩ : ∃ v, Hid (BdAt Vr B B v (conR (m.cons.take j)) ∧ Fr Nil W1 Vr) := by
     obtain ⟨v, h⟩ := HQ.out
     exact ⟨v, Lib.hid h⟩
    clear HQ
    have j0 : (0 : Int) ≤ (j : Int) := by omega
    by_cases hlt : j < nc
    · have hjl : j < m.cons.length := by rw [H1.out.2.2.2.2.2.2.1]; exact hlt
      have wk : IntKind.i64.wrap ((j : Int) + 1) = (j : Int) + 1 := by rw [IntKind.wrap_i64]; omega
      have j1 : (j : Int) < (nc : Int) := by omega
      obtain ⟨b2, off2, e2, _, p0, p1⟩ := DeclsAt.cell (RowC.fr H1.out.2.1.1 HV.out.2 (fun _ q => q)) j hjl
      subst e2
      obtain ⟨q1, q2, q3⟩ := H1.out.2.2.2.2.2.2.2.1.conR_at hjl
      have har := H1.out.2.2.2.2.2.2.2.1.ar _ (List.getElem_mem hjl)
      have hst := conR_take hjl
      obtain ⟨x, hx⟩ : ∃ x, m.cons[j].1 = x := ⟨_, rfl⟩
      obtain ⟨ar, hara⟩ : ∃ x, m.cons[j].2 = x := ⟨_, rfl⟩
      obtain ⟨S, hS⟩ : ∃ x, conR (m.cons.take j) = x := ⟨_, rfl⟩
      obtain ⟨R, hR⟩ : ∃ x, conR (m.cons.take (j + 1)) = x := ⟨_, rfl⟩
      obtain ⟨d, hd⟩ : ∃ x, Lib.decDigits ar = x := ⟨_, rfl⟩
      rw [hx, hara, hS, hR, hd] at hst
      rw [hx] at q2 p0
      rw [hara, hd] at q3
      rw [hara] at har p1
      rw [hS] at q1 HV
      have hdg : ∀ w', Fr Nil W1 w' → Calls Tryz.prog 63 #[.agg #[.bool false, .int .u64 (ar : Int)]] w' fun r w2 => r = .returned (.string ⟨d.toArray⟩) ∧ Fr Nil w' w2 := fun w' f => by
       have h := pnum_any (w := w') false ar (by omega) (H1.out.2.2.2.2.2.2.2.2.2 w' f)
       rw [num_dec har, hd] at h
       exact h
      have wc : IntKind.u64.wrap (ar : Int) = (ar : Int) := by rw [IntKind.wrap_u64]; omega
      obtain ⟨S1, hS1⟩ : ∃ y, [32] ++ x = y := ⟨_, rfl⟩
      have l1 : S1.length = x.length + 1 := by rw [← hS1]; simp
      obtain ⟨S2, hS2⟩ : ∃ y, S1 ++ [32] = y := ⟨_, rfl⟩
      have l2 : S2.length = S1.length + 1 := by rw [← hS2]; simp
      obtain ⟨S3, hS3⟩ : ∃ y, S2 ++ d = y := ⟨_, rfl⟩
      have l3 : S3.length = S2.length + d.length := by rw [← hS3, List.length_append]
      have eR : S ++ S3 = R := by rw [hst, ← hS3, ← hS2, ← hS1]; simp
      have sa1 : ∀ w, (Op.stringOp .add ⟨#[32]⟩ ⟨x.toArray⟩).run Tryz.prog w = .ok (.string ⟨S1.toArray⟩) w := fun w => by rw [← hS1]; exact sadd [32] x (by simp; omega) w
      have sa2 : ∀ w, (Op.stringOp .add ⟨S1.toArray⟩ ⟨#[32]⟩).run Tryz.prog w = .ok (.string ⟨S2.toArray⟩) w := fun w => by rw [← hS2]; exact sadd S1 [32] (by simp; omega) w
      have sa3 : ∀ w, (Op.stringOp .add ⟨S2.toArray⟩ ⟨d.toArray⟩).run Tryz.prog w = .ok (.string ⟨S3.toArray⟩) w := fun w => by rw [← hS3]; exact sadd S2 d (by omega) w
      have lS : S.length + S3.length ≤ 100000000000 := by omega
      have HRR := Lib.hid (And.intro hR (And.intro eR lS))
      obtain ⟨D, hD⟩ : ∃ D, Vr.heap.size = D := ⟨_, rfl⟩
      obtain ⟨W3, hW3⟩ : ∃ W, Vr.alloc (.cells #[.string ⟨x.toArray⟩, .int .i64 (ar : Int)] 68) = W := ⟨_, rfl⟩
      have f3 : Fr Nil Vr W3 := by rw [← hW3]; exact frA
      have b3 : Blk W3 D #[.string ⟨x.toArray⟩, .int .i64 (ar : Int)] 68 := by rw [← hW3, ← hD]; exact Blk.new _ _ _
      have hDn := HV.out.1.own_ne (D := D) (by omega)
      have HK3 : Hid (∀ w', Fr (fun k => k = B ∨ v.ownBlock = some k) W3 w' → w'.cell? ⟨D, 0, none⟩ = some (.string ⟨x.toArray⟩) ∧ w'.cell? ⟨D, 1, none⟩ = some (.int .i64 (ar : Int))) := Lib.hid (fun w' f => by
       have b := f.blk b3 hDn
       have z0 := b.cell 0
       have z1 := b.cell 1
       simp at z0 z1
       exact ⟨z0, z1⟩)
      have hS0 := HK3.out W3 (Fr.refl _ _)
      have HDG := Lib.hid (And.intro (fun w' (f : Fr Nil W3 w') => hdg w' ((HV.out.2.comp f3).comp f)) (And.intro (HV.out.2.comp f3) (HV.out.1.frN f3)))
      have ol := World.block_lt_of_cell? _ _ p0
      have dl := b3.lt
      clear hR hdg hst q1 q2 q3 hx hara hS hd hS1 l1 hS2 l2 hS3 l3 eR lS hDn b3 f3 har
      go_upto_region 7 with fail
      try rw [hD]
      try rw [hW3]
      clear hD hW3 p0 p1 ol
      go_region_held3 (fun w' => w'.cell? ⟨D, 0, none⟩ = some (.string ⟨x.toArray⟩) ∧ w'.cell? ⟨D, 1, none⟩ = some (.int .i64 (ar : Int))) (with_reducible refine HK3.out _ ?_; (first | exact HG5.out.1 | exact Fr.of_nil (by assumption) | (refine Fr.of_nil ?_; (exact frA); done))) (first
       | (go_at_call 63; refine (HDG.out.1 _ (by first | assumption | exact frA)).mono ?_; rintro r w4 ⟨rfl, f4⟩; have g4 : Fr Nil W3 w4 := Fr.comp (S := Nil) (by first | assumption | exact frA) f4; clear f4)
       | (go_at_call 62; have h4 := HDG.out.2.2.frN (w' := w4) (by assumption); refine (pws_any (l := S) (t := S3) (h4.frN (by exact frA)) (HBW.out _ ((HDG.out.2.1.comp (by first | assumption | exact frA)).comp (by exact frA))) HRR.out.2.2).mono ?_; rintro r w5 ⟨r5, v5, rfl, hb5, f5⟩; have g5 : Fr (fun k => k = B ∨ v.ownBlock = some k) W3 w5 := Fr.comp (Fr.of_nil (by assumption)) (Fr.comp (Fr.of_nil (by exact frA)) f5); have HG5 := Lib.hid (And.intro g5 (And.intro hb5 (HDG.out.2.2.wrote H1.out.2.2.2.2.2.2.2.2.1 HDG.out.2.1 g5))); clear h4 hb5 f5 g5))
      all_goals
       go_wp2
       go_roundg (nc - (j + 1))
       case rel => exact ⟨j + 1, rfl, by omega, rfl, Lib.hid ⟨v5, by rw [HRR.out.1, ← HRR.out.2.1]; first | exact HG5.out.2.1 | exact HG5.out.2.1.frN (by exact frA), by first | exact HG5.out.2.2 | exact HG5.out.2.2.comp (by exact frA)⟩⟩
       case measure => omega
    · have j1 : ¬ (j : Int) < (nc : Int) := by omega
      have ej : m.cons.take j = m.cons := List.take_of_length_le (by rw [H1.out.2.2.2.2.2.2.1]; omega)
      rw [ej] at HV
      have lc := H1.out.2.2.2.2.2.2.2.1.conL
      clear ej
      go_wp2_with fail
      refine (pws_any (l := conR m.cons) (t := [59, 10]) HV.out.1 (HBW.out _ HV.out.2) (by simp; omega)).mono ?_
      rintro r w3 ⟨r3, v3, rfl, hb3, f3⟩
      have HX : Hid (∃ v, BdAt w3 B B v S0 ∧ Fr Nil W1 w3) := Lib.hid ⟨v3, by rw [HE0.out]; exact hb3, HV.out.1.wrote H1.out.2.2.2.2.2.2.2.2.1 HV.out.2 f3⟩
      clear hb3 f3 HV lc
      obtain ⟨z0, z1⟩ := HK2.out w3 (by obtain ⟨v, _, f⟩ := HX.out; exact f)
      have zl := World.block_lt_of_cell? _ _ z0
      go_wp2_with fail
      clear z0 z1 zl
      obtain ⟨WX, hWX⟩ : ∃ W, W = w3 := ⟨_, rfl⟩
      rw [← hWX] at HX ⊢
      clear hWX
      go_loopg [36] nb (fun g iv wr => ∃ j : Nat, g = nb - j ∧ j ≤ nb ∧ iv = .int .i64 (j : Int) ∧ Hid (∃ v, BdAt wr B B v (S0 ++ bindsT prF (m.binds.take j)) ∧ Fr Nil W1 wr))
      case atStart => exact ⟨0, rfl, by omega, rfl, Lib.hid (by rw [List.take_zero, show S0 ++ bindsT prF [] = S0 from List.append_nil _]; exact HX.out)⟩
      case round =>
       obtain ⟨j, rfl, hjn, rfl, HQ⟩ := hrel
       obtain ⟨Vr, hVr⟩ : ∃ V, V = wr := ⟨_, rfl⟩
       subst hVr
       obtain ⟨v, HV⟩ : ∃ v, Hid (BdAt Vr B B v (S0 ++ bindsT prF (m.binds.take j)) ∧ Fr Nil W1 Vr) := by
        obtain ⟨v, h⟩ := HQ.out
        exact ⟨v, Lib.hid h⟩
       clear HQ
       have j0 : (0 : Int) ≤ (j : Int) := by omega
       by_cases hlt : j < nb
       · have hjl : j < m.binds.length := by rw [H1.out.2.2.2.2.2.1]; exact hlt
         have wk : IntKind.i64.wrap ((j : Int) + 1) = (j : Int) + 1 := by rw [IntKind.wrap_i64]; omega
         have j1 : (j : Int) < (nb : Int) := by omega
         obtain ⟨b2, off2, e2, _, hc⟩ := (H1.out.2.2.1.frN HV.out.2).at hlt
         obtain ⟨xbn, xpa, xpn, xpc, xk, xnm, xfl, xbi, xa0, xn0, xc0, xa1, xn1, xc1, xa2, xn2, xc2, xa3, xn3, xc3, ec2⟩ := H1.out.2.2.2.1 j hjl
         have hat := H1.out.2.2.2.2.1 j hjl
         rw [ec2] at hc hat
         subst e2
         have x0 := hc 0 _ rfl
         have x1 := hc 1 _ rfl
         have x2 := hc 2 _ rfl
         have x3 := hc 3 _ rfl
         have x4 := hc 4 _ rfl
         have x5 := hc 5 _ rfl
         have x6 := hc 6 _ rfl
         have x7 := hc 7 _ rfl
         have x8 := hc 8 _ rfl
         have x9 := hc 9 _ rfl
         simp only [Nat.add_zero] at x0
         have xl := World.block_lt_of_cell? _ _ x0
         have hw := bindsT_take prF hjl
         have h1 := lenS_takeB hjl
         have h3 := H1.out.2.2.2.2.2.2.2.1.z
         obtain ⟨x, hx⟩ : ∃ x, swB1 prF m.binds[j] = x := ⟨_, rfl⟩
         rw [hx] at hw h1 hat
         obtain ⟨S, hS⟩ : ∃ x, S0 ++ bindsT prF (m.binds.take j) = x := ⟨_, rfl⟩
         have ls : S.length = S0.length + (bindsT prF (m.binds.take j)).length := by rw [← hS, List.length_append]
         obtain ⟨S2, hS2⟩ : ∃ y, x ++ [59, 10] = y := ⟨_, rfl⟩
         have l2 : S2.length = x.length + 2 := by rw [← hS2]; simp
         obtain ⟨S3, hS3⟩ : ∃ y, S0 ++ bindsT prF (m.binds.take (j + 1)) = y := ⟨_, rfl⟩
         have e3 : S ++ S2 = S3 := by rw [← hS3, hw, ← hS2, ← hS]; simp
         rw [hS] at HV
         have sa1 : ∀ w, (Op.stringOp .add ⟨x.toArray⟩ ⟨#[59, 10]⟩).run Tryz.prog w = .ok (.string ⟨S2.toArray⟩) w := fun w => by rw [← hS2]; exact sadd x [59, 10] (by simp; omega) w
         have lS : S.length + S2.length ≤ 100000000000 := by omega
         have HS := Lib.hid (And.intro hS3 (And.intro e3 lS))
         have HA := Lib.hid hat
         clear hS3 hat hx hc ec2 hw h1 h3 hS ls hS2 l2 e3 lS
         go_wp2_with fail
         refine (HA.out _ (HV.out.2.comp (by exact frA))).mono ?_
         rintro r w2 ⟨rfl, f2⟩
         have g2 : Fr Nil Vr w2 := Fr.comp (S := Nil) (by exact frA) f2
         have HF := Lib.hid (And.intro (HV.out.1.frN g2) (HV.out.2.comp g2))
         clear f2 g2 x0 x1 x2 x3 x4 x5 x6 x7 x8 x9 xl
         go_wp2_with fail
         refine (pws_any (l := S) (t := S2) HF.out.1 (HBW.out _ HF.out.2) HS.out.2.2).mono ?_
         rintro r w5 ⟨r5, v5, rfl, hb5, f5⟩
         have HG5 := Lib.hid (And.intro hb5 (HF.out.1.wrote H1.out.2.2.2.2.2.2.2.2.1 HF.out.2 f5))
         clear hb5 f5
         go_wp2
         go_roundg (nb - (j + 1))
         case rel => exact ⟨j + 1, rfl, by omega, rfl, Lib.hid ⟨v5, by rw [HS.out.1, ← HS.out.2.1]; exact HG5.out.1, HG5.out.2⟩⟩
         case measure => omega
       · have j1 : ¬ (j : Int) < (nb : Int) := by omega
         have e : S0 ++ bindsT prF (m.binds.take j) = swM prF m := by
          rw [List.take_of_length_le (by rw [H1.out.2.2.2.2.2.1]; omega), ← HS0.out]
          rfl
         obtain ⟨R, hR⟩ : ∃ R, swM prF m = R := ⟨_, rfl⟩
         rw [e, hR] at HV
         have HR := Lib.hid hR
         clear e hR
         have HBS := Lib.hid (Tryz.Builder_String_any B B R _ (HV.out.1.is (Nat.le_refl _)) (HBW.out _ HV.out.2))
         go_wp2_with fail
         refine HBS.out.mono ?_
         rintro r w3 ⟨rfl, bw⟩
         have f3 : Fr (fun k => B ≤ k) Vr w3 := Fr.of_below bw (fun k hk q => by omega)
         have HF : Hid (Fr Nil w w3) := Lib.hid (H1.out.1.comp (HV.out.2.trans f3 (fun k hk q => by have := H1.out.2.2.2.2.2.2.2.2.1; omega)))
         clear f3 bw
         go_wp2
         go_ret
         exact ⟨by rw [HR.out]; rfl, HF.out⟩
end
theorem mval_modX {X : Nat → Prop} {w : World} {v : Value} {m : TM} (h : MVal X w v m) : ∃ c1 c2 b1 b2, v = .agg #[.slice c1 m.cons.length c2, .slice b1 m.binds.length b2] ∧ ModV X w c1 m.cons.length c2 b1 m.binds.length b2 m := by
 obtain ⟨cv, bv, ec, eb, rfl, h1, h2, h3, h4⟩ := h
 obtain ⟨ca, cc, rfl⟩ := h1.shape
 obtain ⟨ba, bc, rfl⟩ := h3.shape
 exact ⟨ca, cc, ba, bc, rfl, RowC.congr h1 (fun i hi => by rw [h2 i hi]; simp [List.getD, hi]), rfl, ⟨eb, h3, h4⟩, rfl⟩
theorem told9_any (s : ByteArray) (w : World) (hs : s.size ≤ 1000000) {M : TM} {E1 : Int} {E2 : Nat} {nc nb : Nat} (hp : parseF s.data.toList = (M, E1, E2)) (hnc : M.cons.length = nc) (hnb : M.binds.length = nb) :
 Calls Tryz.prog 17 #[.string s] w fun r w' => ∃ c1 c2 b1 b2, r = .returned (.tuple #[.agg #[.slice c1 nc c2, .slice b1 nb b2], .bool (E1 == 0)]) ∧ ModV (fun _ => False) w' c1 nc c2 b1 nb b2 M ∧ Fr Nil w w' := by
 obtain ⟨T, hTT⟩ : ∃ T, w.heap.size = T := ⟨_, rfl⟩
 obtain ⟨W1, hW1⟩ : ∃ W1, w.alloc (.cells #[.slice none 0 0, .slice none 0 0] 26) = W1 := ⟨_, rfl⟩
 have f1 : Fr Nil w W1 := by rw [← hW1]; exact frA
 have bT1 : Blk W1 T #[.slice none 0 0, .slice none 0 0] 26 := by
  rw [← hW1, ← hTT]
  exact Blk.new _ _ _
 have hP := rparse_src s W1 hs
 rw [hp] at hP
 have HP := Lib.hid hP
 have H1 := Lib.hid (And.intro f1 bT1)
 have hT1 : T < W1.heap.size := bT1.lt
 have hwT : w.heap.size ≤ T := Nat.le_of_eq hTT
 clear hP f1 bT1 hp
 go_enter Tryz.func17, Tryz.ntmps17
 go_wp2_with fail
 try rw [hTT]
 try rw [hW1]
 clear hTT hW1
 refine HP.out.mono ?_
 rintro e w2 ⟨v, rfl, hm, f2⟩
 obtain ⟨c1, c2, b1, b2, rfl, hm2⟩ := mval_modX hm
 rw [hnc, hnb] at hm2
 rw [hnc, hnb]
 have bT2 := f2.blk H1.out.2 (fun q => q)
 have Tc0 := bT2.cell 0
 have Tc1 := bT2.cell 1
 simp at Tc0 Tc1
 have Tf := bT2.free
 have Tl := bT2.lt
 have s2 := f2.size
 have fin : Hid (∀ wf, Fr (fun b => b = T) w2 wf → ∃ d1 d2 e1 e2, Ending.returned (.tuple #[.agg #[.slice c1 nc c2, .slice b1 nb b2], .bool (E1 == 0)]) = .returned (.tuple #[.agg #[.slice d1 nc d2, .slice e1 nb e2], .bool (E1 == 0)]) ∧ ModV (fun _ => False) wf d1 nc d2 e1 nb e2 M ∧ Fr Nil w wf) := Lib.hid (fun wf g => by
  have FF : Fr Nil w wf := (H1.out.1.comp f2).trans g (fun k hk q => by have q' : k = T := q; omega)
  exact ⟨_, _, _, _, rfl, (hm2.fr g (fun b q => by have q' : b = T := q; omega)).mono (fun b _ q => q.elim), FF⟩)
 clear f2 hm hm2 HP bT2 hnc hnb
 go_wp2
 (try simp only [Exit.inBlock, Exit.then])
 refine bodyPost_ret (v := .tuple #[.agg #[.slice c1 nc c2, .slice b1 nb b2], .bool (E1 == 0)]) (by simp [results, Tryz.results17, go_sem, *]) rfl ?_
 exact fin.out _ (by exact frG)
theorem src_svm (s : List UInt8) (hs : s.length ≤ 5000) : SvM (parseF s).1 :=
 ⟨(src_show s hs).1, by have := (src_show s hs).2; omega, fun d hd => Nat.le_trans (parse_cn s d hd) hs, parse_ar s, (parse_few s).1⟩
def src9 : List UInt8 := [102, 32, 120, 61, 99, 97, 115, 101, 32, 120, 32, 111, 102, 123, 48, 45, 62, 40, 49, 41, 59, 121, 45, 62, 102, 40, 121, 45, 49, 41, 125, 59]
def mod9 : TM := ⟨[], [.mk [102] [[120]] (.mk 7 [] false 0 [] [.mk 1 [120] false 0 [] [] [] []] [] [.mk 1 [] false 0 [] (.mk 3 [] false 1 [] [] [] []), .mk 2 [121] false 0 [] (.mk 4 [] false 0 [] [.mk 1 [102] false 0 [] [] [] [], .mk 5 [45] false 0 [] [.mk 1 [121] false 0 [] [] [] [], .mk 3 [] false 1 [] [] [] []] [] []] [] [])])]⟩
theorem src9_parse : parseF src9 = (mod9, 0, 0) := by kernel_rfl
theorem src9_text : swM prF mod9 = [102, 32, 120, 32, 61, 32, 99, 97, 115, 101, 32, 120, 32, 111, 102, 32, 123, 48, 32, 45, 62, 32, 49, 59, 32, 121, 32, 45, 62, 32, 102, 32, 40, 121, 32, 45, 32, 49, 41, 125, 59, 10] := by
 have h0 : numT (prF false 0) = [48] := by rw [num_dec (by decide), Lib.decDigits]; rfl
 have h1 : numT (prF false 1) = [49] := by rw [num_dec (by decide), Lib.decDigits]; rfl
 simp [swM, mod9, consT, bindsT, swB1, swE, swK, swA, swX, atomT, bareE, parF, headF, nakedE, lowF, joinS, joinR, Lib.join, Lib.joinTail, h0, h1]
theorem awake9_any (w : World) (hT : Tabs w) :
 Calls Tryz.prog 16 #[] w fun r w' => r = .returned (.bool true) ∧ Fr Nil w w' := by
 have HP := Lib.hid (told9_any ⟨#[102, 32, 120, 61, 99, 97, 115, 101, 32, 120, 32, 111, 102, 123, 48, 45, 62, 40, 49, 41, 59, 121, 45, 62, 102, 40, 121, 45, 49, 41, 125, 59]⟩ w (by decide) (M := mod9) (E1 := 0) (E2 := 0) (nc := 0) (nb := 1) src9_parse rfl rfl)
 have hsv := src_svm src9 (by decide)
 rw [src9_parse] at hsv
 have HS := Lib.hid (And.intro hsv hT)
 clear hsv hT
 go_enter Tryz.func16, Tryz.ntmps16
 go_wp2_with fail
 refine HP.out.mono ?_
 rintro e w2 ⟨c1, c2, b1, b2, rfl, hm, f2⟩
 have H2 := Lib.hid (And.intro hm f2)
 clear hm f2 HP
 go_wp2_with fail
 obtain ⟨T, hT⟩ : ∃ T, w2.heap.size = T := ⟨_, rfl⟩
 try rw [hT]
 obtain ⟨W3, hW3⟩ : ∃ W3, w2.alloc (.cells #[.slice c1 0 c2, .slice b1 1 b2] 26) = W3 := ⟨_, rfl⟩
 rw [hW3]
 have f3 : Fr Nil w2 W3 := by rw [← hW3]; exact frA
 have hck := pmod_any (H2.out.1.fr f3 (fun _ q => q.elim)) HS.out.1 (HS.out.2.fr (H2.out.2.comp f3))
 rw [src9_text] at hck
 have HK := Lib.hid hck
 have H3 := Lib.hid (H2.out.2.comp f3)
 clear hW3 f3 hck hT
 refine HK.out.mono ?_
 rintro e w4 ⟨rfl, f4⟩
 have HF := Lib.hid (H3.out.comp f4)
 clear f4 HK
 go_wp2
 go_ret
 exact ⟨rfl, HF.out⟩
end Go.Proofs.YtlnmicddobgppaaGreatDoor
