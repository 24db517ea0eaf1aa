/- All cuttings: f83. Written by mkCd.py. -/
import Derived.Test.YtmodbpglopfghaaVanCc
import Derived.Test.YtmodbpglopfghaaVanAo
import Derived.Test.YtmodbpglopfghaaVanL
import Derived.Test.YtmodbpglopfghaaVanN
import Derived.Test.YtmodbpglopfghaaMore
import Derived.Test.YtmodbpglopfghaaApp3
set_option linter.unusedSimpArgs false
set_option linter.unusedVariables false
namespace Go.Proofs.Ytmodbpglopfghaa
open Go Go.RowKit

def flatV (ps : List (Value × Value)) : List Value := ps.flatMap fun p => [p.1, p.2]
theorem flatV_snoc (ps : List (Value × Value)) (a b : Value) : flatV (ps ++ [(a, b)]) = flatV ps ++ [a, b] := by simp [flatV]
theorem flatV_get : ∀ (ps : List (Value × Value)) (k : Nat) (hk : k < ps.length), (flatV ps)[k * 2]? = some ps[k].1 ∧ (flatV ps)[k * 2 + 1]? = some ps[k].2
  | p :: ps, 0, _ => by simp [flatV]
  | p :: ps, k + 1, hk => by
    have := flatV_get ps k (by simpa using hk)
    have e : flatV (p :: ps) = p.1 :: p.2 :: flatV ps := by simp [flatV]
    rw [e, show (k + 1) * 2 = k * 2 + 1 + 1 by omega, show k * 2 + 1 + 1 + 1 = k * 2 + 1 + 1 + 1 from rfl]
    simpa using this
theorem own_cell2 {w : World} {base e n c : Nat} {A : Option Addr} {ps : List (Value × Value)} (h : w.ownsRow base e 2 (.slice A n c) n (flatV ps)) (hl : ps.length = n) {k : Nat} (hk : k < ps.length) :
    ∃ g, A = some ⟨g, 0, none⟩ ∧ g < w.heap.size ∧ base ≤ g ∧ w.cell? ⟨g, k * 2, none⟩ = some ps[k].1 ∧ w.cell? ⟨g, k * 2 + 1, none⟩ = some ps[k].2 := by
  rcases h.2 with ⟨e1, e2⟩ | ⟨g, cap, cur, e1, hb, _⟩
  · omega
  · injection e1 with e1 e3 e4
    subst e1 e4
    obtain ⟨f0, f1⟩ := flatV_get ps k hk
    have h0 := h.cells (g := g) rfl (k * 2) _ f0
    have h1 := h.cells (g := g) rfl (k * 2 + 1) _ f1
    rw [Addr.add_lit, Nat.zero_add] at h0 h1
    exact ⟨g, rfl, (h.lt g rfl).2, hb, h0, h1⟩
theorem info103 : (Try.prog.info? 103).map (fun i => (i.zero, i.size, i.bytes)) = some (some (.agg #[.slice none 0 0, .int .i64 0]), 2, 32) := by kernel_rfl

/-- Blocks from lo on, but not that of v. -/
def NO (lo : Nat) (v : Value) : Nat → Prop := fun x => lo ≤ x ∧ v.ownBlock ≠ some x
section
variable {f : Nat → Nat → Int} {N N' : Nat → Prop} {w w' : World} {A : Option Addr} {t : List Nat} {L : List (List Nat)}
theorem Mv.grownO {lo : Nat} {v v' : Value} (h : w.grownBy w' v.ownBlock) (hat : ∀ k, v'.ownBlock = some k → v.ownBlock = some k ∨ k = w.heap.size) : Mv (NO lo v) (NO lo v') w w' :=
  ⟨h.size, fun b hn hb => by
    obtain ⟨h1, h2⟩ := (Mv.grown h hat).2 b hn.2 hb
    exact ⟨⟨hn.1, h1⟩, h2⟩⟩
theorem Cut.len {bx : Nat → Int} {cap : Int} : ∀ {ss t : List Nat}, Cut bx cap ss t → ss.length ≤ t.length
  | [], t, _ => Nat.zero_le _
  | n :: ss, t, h => by
    have h1 := Cut.len h.2.2.2
    have h2 := h.1
    have h3 := h.2.1
    rw [List.length_drop] at h1
    rw [List.length_cons]; omega
/-- Cuttings: their values. -/
def CutsQ (f : Nat → Nat → Int) (N : Nat → Prop) (w : World) (ps : List (Value × Value)) (t : List Nat) (L : List (List Nat)) : Prop := ps.length = L.length ∧ ∀ k (hk : k < L.length), ∃ A1 c1, ps[k]? = some (.slice A1 L[k].length c1, .int .i64 (smC f L[k] t)) ∧ TblN N w A1 ((sgC L[k] t).map intL)
/-- Cuttings in memory. -/
def CutsN (f : Nat → Nat → Int) (N : Nat → Prop) (w : World) (A : Option Addr) (t : List Nat) (L : List (List Nat)) : Prop := ∀ k (hk : k < L.length), ∃ b off A1 c1, A = some ⟨b, off, none⟩ ∧ N b ∧ b < w.heap.size ∧ w.cell? ⟨b, off + k * 2, none⟩ = some (.slice A1 L[k].length c1) ∧ w.cell? ⟨b, off + k * 2 + 1, none⟩ = some (.int .i64 (smC f L[k] t)) ∧ TblN N w A1 ((sgC L[k] t).map intL)
theorem CutsQ.nil : CutsQ f N w [] t [] := ⟨rfl, fun k hk => by simp at hk⟩
theorem CutsQ.mv {ps : List (Value × Value)} (h : CutsQ f N w ps t L) (m : Mv N N' w w') : CutsQ f N' w' ps t L := ⟨h.1, fun k hk => by
  obtain ⟨A1, c1, e, hi⟩ := h.2 k hk
  exact ⟨A1, c1, e, hi.mv m⟩⟩
theorem CutsN.mv (h : CutsN f N w A t L) (m : Mv N N' w w') : CutsN f N' w' A t L := fun k hk => by
  obtain ⟨b, off, A1, c1, e, hn, hb, h1, h2, h3⟩ := h k hk
  exact ⟨b, off, A1, c1, e, (m.2 b hn hb).1, Nat.lt_of_lt_of_le hb m.1, ((m.2 b hn hb).2 _).trans h1, ((m.2 b hn hb).2 _).trans h2, h3.mv m⟩
theorem CutsQ.snoc {ps : List (Value × Value)} {ss : List Nat} {A1 : Option Addr} {n1 c1 : Nat} {z : Int} (h : CutsQ f N w ps t L) (hn : ss.length = n1) (hz : smC f ss t = z) (hi : TblN N w A1 ((sgC ss t).map intL)) : CutsQ f N w (ps ++ [(.slice A1 n1 c1, .int .i64 z)]) t (L ++ [ss]) := by
  subst hn hz
  refine ⟨by simp [h.1], fun k hk => ?_⟩
  have hl := h.1
  by_cases hlt : k < L.length
  · obtain ⟨A2, c2, e, hi2⟩ := h.2 k hlt
    exact ⟨A2, c2, by rw [List.getElem?_append_left (by omega), e, List.getElem_append_left hlt], by rw [List.getElem_append_left hlt]; exact hi2⟩
  · have hk' : k = L.length := by simp at hk; omega
    subst hk'
    exact ⟨A1, c1, by rw [List.getElem?_append_right (by omega), hl]; simp, by simpa using hi⟩
theorem CutsQ.cuts {ps : List (Value × Value)} {base n c : Nat} (h : CutsQ f N w ps t L) (hown : w.ownsRow base 103 2 (.slice A n c) n (flatV ps)) (hn : L.length = n) (hN : ∀ b, base ≤ b → N' b) (hNN : ∀ b, N b → N' b) : CutsN f N' w A t L := fun k hk => by
  have hkp : k < ps.length := by rw [h.1]; exact hk
  obtain ⟨g, rfl, hg, hgb, q0, q1⟩ := own_cell2 hown (h.1.trans hn) hkp
  obtain ⟨A1, c1, e1, i1⟩ := h.2 k hk
  rw [List.getElem?_eq_getElem hkp] at e1
  injection e1 with e1
  exact ⟨g, 0, A1, c1, rfl, hN g hgb, hg, by rw [Nat.zero_add, q0, e1], by rw [Nat.zero_add, q1, e1], i1.mv (Mv.imp fun b hb _ => hNN b hb)⟩
theorem lenF_bd {n : Nat} (hf : ∀ i j, i < n → j < n → 0 ≤ f i j ∧ f i j ≤ 1000) (h : ∀ x ∈ t, x < n) (hn : 1 ≤ n) : 0 ≤ lenF f 0 t ∧ lenF f 0 t ≤ 1000 * (t.length : Int) + 1000 := by
  rw [lnT_all]
  have h1 := lnT_bd hf h hn t.length (Nat.le_refl _)
  have h2 := hf _ 0 (atT_lt h hn t.length) hn
  omega
theorem smC_bd {bx : Nat → Int} {cap : Int} {n : Nat} (hf : ∀ i j, i < n → j < n → 0 ≤ f i j ∧ f i j ≤ 1000) (hn : 1 ≤ n) : ∀ (ss t : List Nat), (∀ x ∈ t, x < n) → Cut bx cap ss t → 0 ≤ smC f ss t ∧ smC f ss t ≤ 2000 * (t.length : Int)
  | [], t, h, hc => by simp only [smC]; omega
  | m :: ss, t, h, hc => by
    have h1 := smC_bd hf hn ss (t.drop m) (fun x hx => h x (List.mem_of_mem_drop hx)) hc.2.2.2
    have h2 := lenF_bd (t := t.take m) hf (fun x hx => h x (List.mem_of_mem_take hx)) hn
    have h3 := hc.1
    have h4 := hc.2.1
    simp only [smC]
    rw [List.length_drop] at h1
    rw [List.length_take] at h2
    omega
theorem ldS_bd {bx : Nat → Int} (h : ∀ x ∈ t, 0 ≤ bx x ∧ bx x ≤ 100) : 0 ≤ ldS bx t ∧ ldS bx t ≤ 100 * (t.length : Int) := by
  induction t with
  | nil => simp [ldS]
  | cons x t ih =>
    have h1 := ih fun y hy => h y (by simp [hy])
    have h2 := h x (by simp)
    simp only [ldS, List.map_cons, List.sum_cons, List.length_cons] at h1 ⊢
    omega
end
theorem own_one {w : World} {base e : Nat} (v : Value) (hb : base ≤ w.heap.size) : (w.alloc (.cells #[v] e)).ownsRow base e 1 (.slice (some ⟨w.heap.size, 0, none⟩) 1 1) 1 [v] :=
  ⟨by simp, .inr ⟨w.heap.size, 1, #[v], rfl, hb, heap_alloc_new w _, Nat.le_refl _, by simp [maxLen], by simp, by simp⟩⟩

section
variable (b off n c c1 : Nat) (f g : Nat → Nat → Int) (A1 : Option Addr) (cap : Int)

set_option maxRecDepth 100000 in
set_option maxHeartbeats 4000000 in
theorem cuttings_nil (A2 : Option Addr) (c2 : Nat) (w : World) :
    Calls Try.prog 83 #[.slice (some ⟨b, off, none⟩) n c, .slice A1 n c1, .slice A2 0 c2, .int .i64 cap] w fun e w' => ∃ A' c' L, e = .returned (.slice A' (List.length L) c') ∧ CutA (fun x => g x 3) cap [] L ∧ CutsN f (fun x => w.heap.size ≤ x) w' A' [] L ∧ Below w.heap.size w w' := by
  go_enter Try.func83, Try.ntmps83
  go_wp2_with fail
  go_ret
  refine ⟨some ⟨w.heap.size, 0, none⟩, 1, [[]], rfl, CutA.nil, fun k hk => ?_, balloc (Below.refl _ _) _⟩
  have hk0 : k = 0 := by simp at hk; exact hk
  subst hk0
  obtain ⟨q0, q1, _⟩ := blk2 (Blk.new w 103 #[.slice none 0 0, .int .i64 0])
  exact ⟨w.heap.size, 0, none, 0, rfl, Nat.le_refl _, by simp, q0, q1, fun j hj => by simp [sgC] at hj⟩

set_option maxRecDepth 100000 in
set_option maxHeartbeats 4000000 in
theorem cuttings_any (hf : ∀ i j, i < n → j < n → 0 ≤ f i j ∧ f i j ≤ 1000) (hg : VS n g) (hn : 1 ≤ n) (hn7 : n ≤ 1000) :
    ∀ (m : Nat) (t : List Nat) (A2 : Option Addr) (c2 B : Nat) (w : World), t.length = m → m ≤ 10 → B ≤ w.heap.size → WaAt B w b off n f → StAt B w A1 n g → IntsAt B w A2 (intL t) → t.length ≤ c2 → (∀ x ∈ t, x < n) →
    Calls Try.prog 83 #[.slice (some ⟨b, off, none⟩) n c, .slice A1 n c1, .slice A2 t.length c2, .int .i64 cap] w fun e w' => ∃ A' c' L, e = .returned (.slice A' (List.length L) c') ∧ CutA (fun x => g x 3) cap t L ∧ CutsN f (fun x => w.heap.size ≤ x) w' A' t L ∧ Below w.heap.size w w' := by
  intro m
  induction m using Nat.strongRecOn with
  | _ m IH =>
  intro t A2 c2 B w hm hm10 hB h h1 h2 hcap2 ht
  by_cases h0 : t.length = 0
  · obtain rfl := List.eq_nil_of_length_eq_zero h0
    exact cuttings_nil b off n c c1 f g A1 cap A2 c2 w
  · subst hm
    have H := Lib.hid (h.below (Below.refl _ _) hB)
    have H1 := Lib.hid (show StAt w.heap.size w A1 n g from h1.below (Below.refl _ _) hB)
    have H2 := Lib.hid (show IntsAt w.heap.size w A2 (intL t) from h2.below (Below.refl _ _) hB)
    have Ht := Lib.hid ht
    have Hf := Lib.hid hf
    have Hg := Lib.hid hg
    have HIH := Lib.hid (fun (q : Nat) (hq : 1 ≤ q) (hqt : q ≤ t.length) (A3 : Option Addr) (W : World) (hW : Below w.heap.size w W) (hI : IntsAt W.heap.size W A3 (intL (t.drop q))) => show Calls Try.prog 83 #[.slice (some ⟨b, off, none⟩) n c, .slice A1 n c1, .slice A3 (t.length - q) (c2 - q), .int .i64 cap] W fun e w' => ∃ A' c' L, e = .returned (.slice A' (List.length L) c') ∧ CutA (fun x => g x 3) cap (t.drop q) L ∧ CutsN f (fun x => W.heap.size ≤ x) w' A' (t.drop q) L ∧ Below W.heap.size W w' from by
      have hd : (t.drop q).length = t.length - q := List.length_drop
      have := IH (t.drop q).length (by omega) (t.drop q) A3 (c2 - q) W.heap.size W rfl (by omega) (Nat.le_refl _) (H.out.below hW hW.size) (H1.out.below hW hW.size) hI (by omega) (fun x hx => Ht.out x (List.mem_of_mem_drop hx))
      rw [hd] at this
      exact this)
    have Hld := Lib.hid (fun k => ldS_bd (t := t.take k) (bx := fun x => g x 3) fun x hx => ⟨(hg x (ht x (List.mem_of_mem_take hx))).2.1, (hg x (ht x (List.mem_of_mem_take hx))).2.2⟩)
    have Hmono := Lib.hid (fun (a d : Nat) (had : a ≤ d) => ldS_take (t := t) (bx := fun x => g x 3) (fun x hx => (hg x (ht x hx)).2.1) had)
    have Hsm := Lib.hid (fun (q : Nat) (ss : List Nat) (hc : Cut (fun x => g x 3) cap ss (t.drop q)) => smC_bd (f := f) hf hn ss (t.drop q) (fun x hx => ht x (List.mem_of_mem_drop hx)) hc)
    have Hln := Lib.hid (fun q => lenF_bd (f := f) (t := t.take q) hf (fun x hx => ht x (List.mem_of_mem_take hx)) hn)
    have hpos : 0 < t.length := by omega
    have hne : ((t.length : Int) == 0) = false := by rw [beq_eq_false_iff_ne]; omega
    obtain ⟨j0, hj, hy0, hy1, hy2⟩ := info_parts info3
    obtain ⟨i28, hi28, hz28, hs28, hb28⟩ := info_parts info28
    obtain ⟨i103, hi103, hz103, hs103, hb103⟩ := info_parts info103
    have HBw0 := Lib.hid (Below.refl w.heap.size w)
    clear h h1 h2 ht hf hg IH hB h0
    go_enter Try.func83, Try.ntmps83
    go_wp2_with fail
    go_loopw [9, 10, 11] (fun vo vl vn wr => ∃ (k nL : Nat) (L : List (List Nat)) (ps : List (Value × Value)) (A : Option Addr) (cA : Nat), k ≤ t.length ∧ vn = .int .i64 ((k : Int) + 1) ∧ vl = .int .i64 (ldS (fun x => g x 3) (t.take k)) ∧ vo = .slice A nL cA ∧ Aside (L.length = nL) ∧ Aside (wr.ownsRow w.heap.size 103 2 (.slice A nL cA) nL (flatV ps)) ∧ Aside (CutsQ f (NO w.heap.size (.slice A nL cA)) wr ps t L) ∧ Aside (CutF (fun x => g x 3) cap t k L) ∧ Below w.heap.size w wr) (fun _ _ vn _ => t.length + 1 - (intOf vn).toNat)
    case atStart => exact ⟨0, 0, [], [], none, 0, Nat.zero_le _, rfl, by simp [ldS], rfl, rfl, World.ownsRow_nil _ _ _ _, CutsQ.nil, CutF.zero, HBw0.out⟩
    case round =>
      clear HBw0
      obtain ⟨k, nL, L, ps, A, cA, hk, rfl, rfl, rfl, hnl, hown, hq, hcf, hbr⟩ := hrel
      have HNl := Lib.hid hnl.out
      have HO := Lib.hid hown.out
      have HQ := Lib.hid hq.out
      have HF := Lib.hid hcf.out
      have HBr := Lib.hid hbr
      have hnL : nL ≤ 1024 := by
        have h1 := Nat.le_trans (Nat.le_add_right _ _) HF.out.2
        have h2 := two_pow_le hm10
        have h3 := hnl.out
        omega
      clear hown hq hcf hbr hnl
      by_cases hlt : k < t.length
      · obtain ⟨b2, o2, rfl, hb2, y0⟩ := (H2.out.below HBr.out (Nat.le_refl _)).at (k := k) (by rw [intL_length]; exact hlt)
        rw [intL_get hlt] at y0
        have hs := Ht.out _ (List.getElem_mem hlt)
        obtain ⟨b3, o3, rfl, hb3, _, _, _, g3⟩ := (H1.out.below HBr.out (Nat.le_refl _)).at hs
        have hld0 := (Hld.out k).1
        have hld1 := (Hld.out k).2
        have hg3 := (Hg.out _ hs).2
        have hsu := ldS_succ (bx := fun x => g x 3) hlt
        have hlen : (t.take k).length ≤ 10 := by rw [List.length_take]; omega
        have hbr := HBr.out.size
        have hb2w : b2 < wr.heap.size := by omega
        have hb3w : b3 < wr.heap.size := by omega
        have hki : (k : Int) < (t.length : Int) := by omega
        have hk0 : (0 : Int) ≤ (k : Int) := by omega
        have hk1 : (k : Int) + 1 ≤ (t.length : Int) := by omega
        have hkw : IntKind.i64.wrap (k : Int) = (k : Int) := IntWalk.i64_in _ (by omega)
        have hkw2 : IntKind.i64.wrap ((k : Int) + 1 - 1) = (k : Int) := by rw [IntWalk.i64_in _ (by omega)]; omega
        have Hpre := Lib.hid (show IntsAt w.heap.size w (some ⟨b2, o2, none⟩) (intL (t.take (k + 1))) from by
          have := H2.out.take (k + 1)
          unfold intL at this ⊢
          rwa [List.map_take])
        have Htl := Lib.hid (show (intL (t.take (k + 1))).length = k + 1 from by rw [intL_length, List.length_take]; omega)
        have Hsu := Lib.hid hsu
        generalize t[k] = x at y0 hs g3 hg3 Hsu hsu
        have hg3 : 0 ≤ g x 3 ∧ g x 3 ≤ 100 := hg3
        generalize hbx : g x 3 = bx at g3 hg3 Hsu hsu
        generalize hl0 : ldS (fun x => g x 3) (t.take k) = l0 at hld0 hld1 Hsu hsu ⊢
        have hx0 : (0 : Int) ≤ (x : Int) := by omega
        have hxn : (x : Int) < (n : Int) := by omega
        have hw1 : IntKind.i64.wrap (l0 + bx) = l0 + bx := IntWalk.i64_in _ (by omega)
        clear hbx hl0 hsu
        by_cases hbig : cap < l0 + bx
        · have HA := Lib.hid (HF.out.all hpos fun m hm1 hm2 => by
            have h1 := Hmono.out (k + 1) m (by omega)
            rw [Hsu.out] at h1
            omega)
          go_wp2_with fail
          go_ret
          exact ⟨A, cA, L, by rw [HNl.out]; rfl, HA.out, HQ.out.cuts HO.out HNl.out (fun b hb => hb) (fun b hb => hb.1), HBr.out⟩
        · have hsm : l0 + bx ≤ cap := by omega
          have HLd := Lib.hid (show ldS (fun x => g x 3) (t.take (k + 1)) ≤ cap by rw [Hsu.out]; exact hsm)
          have HLe := Lib.hid (show ldS (fun x => g x 3) (t.take (k + 1)) = l0 + bx from Hsu.out)
          have hO1 : (wr.alloc (.cells #[] 3)).ownsRow wr.heap.size 3 1 (.slice (some ⟨wr.heap.size, 0, none⟩) 0 0) 0 [] := own_new 1 (Nat.le_refl _)
          have hb1' : Below wr.heap.size wr (wr.alloc (.cells #[] 3)) := (Below.refl _ _).alloc (Nat.le_refl _) _
          have HO1 := Lib.hid hO1
          have HB1 := Lib.hid hb1'
          have HP1 := Lib.hid (Hpre.out.below (HBr.out.trans (hb1'.mono HBr.out.size)) (Nat.le_refl w.heap.size))
          have hkc : (k : Int) + 1 ≤ (c2 : Int) := by omega
          obtain ⟨q, hqk⟩ : ∃ q : Nat, q = k + 1 := ⟨_, rfl⟩
          have HIq := Lib.hid (fun A3 W hW hI => HIH.out q (by omega) (by omega) A3 W hW hI)
          have HDr := Lib.hid (show IntsAt w.heap.size w (if c2 = q then some (⟨b2, o2, none⟩ : Addr) else some ⟨b2, o2 + q, none⟩) (intL (t.drop q)) from by
            have := H2.out.dropD (c := c2) (a := q) (by rw [intL_length]; exact hcap2)
            have e : Option.map (fun x : Addr => x.add q) (some (⟨b2, o2, none⟩ : Addr)) = some ⟨b2, o2 + q, none⟩ := by rw [Option.map_some, Addr.add_lit]
            rw [e] at this
            unfold intL at this ⊢
            rwa [List.map_drop])
          have Hqk := Lib.hid hqk
          have hkq : (k : Int) + 1 = (q : Int) := by omega
          have hq5 : (q : Int) ≤ (t.length : Int) := by omega
          have hq0 : (0 : Int) ≤ (q : Int) := by omega
          have hqc : (q : Int) ≤ (c2 : Int) := by omega
          have hq6 : q ≤ 10 := by omega
          rw [hkq] at hk1 hkc ⊢
          have hkq2 : IntKind.i64.wrap ((q : Int) - 1) = (k : Int) := by rw [← hkq]; exact hkw2
          generalize hA3 : (if c2 = q then some (⟨b2, o2, none⟩ : Addr) else some ⟨b2, o2 + q, none⟩) = A3 at HDr
          rw [← hqk] at HP1 Htl HLe HLd
          clear hqk hO1 hb1' Hsu hbr hld0 hld1 hkw2
          have tok := Lib.hid (Nat.le_refl 0)
          go_wp2_with (first
            | (at_builtin; have tk := tok; clear tok; refine wpList_app _ rfl _ _ 28 rfl wr.heap.size 3 j0 _ 1 8 Try.underlying28 hj hy0 hy1 hy2 rfl (by decide) _ 0 _ rfl HO1.out (some ⟨b2, o2, none⟩) q c2 ((intL (t.take q)).map (Value.int .i64)) rfl (by rw [List.length_map, Htl.out, Nat.mul_one]) (fun e => by cases e) (IntsAt.news HP1.out) (ints_one _) (by omega) (by decide) HB1.out.size q (by omega) ((intL (t.take q)).map (Value.int .i64)) rfl ?_; intro A4 c4 w4 hown4 hg4 hlow4; have HB4 := Lib.hid (HB1.out.grown hg4 HB1.out.size hlow4); have HO4 := Lib.hid hown4; clear hown4 hg4 hlow4 HP1 HO1)
            | (go_at_call 83; refine (HIq.out A3 _ (HBr.out.trans (HB4.out.mono HBr.out.size)) ((HDr.out.below (HBr.out.trans (HB4.out.mono HBr.out.size)) (HBr.out.trans (HB4.out.mono HBr.out.size)).size))).mono ?_; rintro e w5 ⟨AR, cR, R, rfl, hcR, hRn, hb5⟩))
          have HNew0 : ∀ x, wr.heap.size ≤ x → NO w.heap.size (.slice A nL cA) x := fun x hx => ⟨by have := HBr.out.size; omega, fun e => by have := (HO.out.lt x e).2; omega⟩
          have HcR := Lib.hid hcR
          have HB45 := Lib.hid (HB4.out.trans (hb5.mono HB4.out.size))
          have HR5 := Lib.hid (hRn.mv (N' := NO w.heap.size (.slice A nL cA)) (Mv.imp fun b hb _ => HNew0 b (Nat.le_trans HB4.out.size hb)))
          have HT5 := Lib.hid ((IntsN.of_own (N := NO w.heap.size (.slice A nL cA)) HO4.out Htl.out (fun b h1 _ => HNew0 b h1)).mv (Mv.below hb5))
          have HQ5 := Lib.hid (HQ.out.mv (Mv.below HB45.out))
          have HO5 := Lib.hid (own_below HO.out HB45.out)
          have HB5 := Lib.hid (HBr.out.trans (HB45.out.mono HBr.out.size))
          have hRl : R.length ≤ 1024 := by
            have h1 := hcR.2
            have h2 := two_pow_le (n := (t.drop q).length) (m := 10) (by rw [List.length_drop]; omega)
            omega
          clear hcR hRn hb5 HNew0 HQ HO HB4 HO4 HB45 HDr HIq
          go_loopw [9, 14] (fun vo vi wx => ∃ (i : Nat) (ps : List (Value × Value)) (A : Option Addr) (cA : Nat), i ≤ R.length ∧ vi = .int .i64 i ∧ vo = .slice A (nL + i) cA ∧ Aside (wx.ownsRow w.heap.size 103 2 (.slice A (nL + i) cA) (nL + i) (flatV ps)) ∧ Aside (CutsQ f (NO w.heap.size (.slice A (nL + i) cA)) wx ps t (L ++ (R.take i).map fun r => q :: r)) ∧ Aside (CutsN f (NO w.heap.size (.slice A (nL + i) cA)) wx AR (t.drop q) R) ∧ Aside (IntsN (NO w.heap.size (.slice A (nL + i) cA)) wx A4 (intL (t.take q))) ∧ Below w.heap.size w wx) (fun _ vi _ => R.length - (intOf vi).toNat)
          case atStart => exact ⟨0, ps, A, cA, Nat.zero_le _, rfl, rfl, HO5.out, (by
            have := HQ5.out
            show CutsQ f (NO w.heap.size (.slice A nL cA)) w5 ps t (L ++ (R.take 0).map fun r => q :: r)
            rw [List.take_zero, List.map_nil, List.append_nil]
            exact this : CutsQ f (NO w.heap.size (.slice A nL cA)) w5 ps t (L ++ (R.take 0).map fun r => q :: r)), HR5.out, HT5.out, HB5.out⟩
          case round =>
            clear HQ5 HO5 HR5 HT5 HB5
            obtain ⟨i, ps, A, cA, hi, rfl, rfl, hown, hq, hr, htr, hbx⟩ := hrel
            have HO := Lib.hid hown.out
            have HQ := Lib.hid hq.out
            have HR := Lib.hid hr.out
            have HTr0 := Lib.hid htr.out
            have HBx := Lib.hid hbx
            clear hown hq hr htr hbx
            by_cases hlt2 : i < R.length
            · obtain ⟨br, offr, Ar, cr, rfl, hNr, hbrw, e0, e1, hT⟩ := HR.out i hlt2
              have hcut := (HcR.out.1 _).1 (List.getElem_mem hlt2)
              have hsb := Hsm.out q _ hcut
              have hlb := Hln.out q
              have hcl := Cut.len hcut
              rw [List.length_drop] at hsb hcl
              rw [List.length_take] at hlb
              have HSn0 := Lib.hid (show (R.take (i + 1)).map (fun r => q :: r) = (R.take i).map (fun r => q :: r) ++ [q :: R[i]] by rw [List.take_succ_eq_append_getElem hlt2, List.map_append]; rfl)
              have HSs := Lib.hid (show sgC (q :: R[i]) t = t.take q :: sgC R[i] (t.drop q) from rfl)
              have HSz := Lib.hid (show smC f (q :: R[i]) t = lenF f 0 (t.take q) + smC f R[i] (t.drop q) from rfl)
              have HRl0 := Lib.hid (show ((sgC R[i] (t.drop q)).map intL).length = R[i].length by rw [List.length_map, sgC_length])
              obtain ⟨vs, hvq, hvc, hv1, hvn⟩ := hT.row
              have hvl := hvq.1
              rw [HRl0.out] at hvl hvn
              have cl00 := fun (W : World) (hW : Below w.heap.size w W) (hI : IntsAt W.heap.size W A4 (intL (t.take q))) => length_ref b off n c c4 W.heap.size f A4 (t.take q) W (Nat.le_refl _) (H.out.below hW hW.size) Hf.out hI (fun x hx => Ht.out x (List.mem_of_mem_take hx)) hn (by rw [List.length_take]; omega)
              rw [show (t.take q).length = q by rw [List.length_take]; omega] at cl00
              have cl0 := Lib.hid cl00
              clear cl00
              generalize hss : R[i] = ss at *
              clear hss
              generalize smC f ss (t.drop q) = sr at *
              generalize lenF f 0 (t.take q) = ln at *
              obtain ⟨nr, hnr⟩ : ∃ nr, nr = ss.length := ⟨_, rfl⟩
              rw [← hnr] at e0 hvl hvn hcl
              have HNr := Lib.hid hnr
              clear hnr
              have HVl := Lib.hid hvl
              have HVn := Lib.hid hvn
              have HV1 := Lib.hid hv1
              have hiI : (i : Int) < (R.length : Int) := by omega
              have hi0 : (0 : Int) ≤ (i : Int) := by omega
              have hnr10 : nr ≤ 10 := by omega
              have hwz : IntKind.i64.wrap (sr + ln) = ln + sr := by rw [IntWalk.i64_in _ (by omega)]; omega
              obtain ⟨z, hz⟩ : ∃ z, z = ln + sr := ⟨_, rfl⟩
              rw [← hz] at hwz HSz
              go_wp2_with fail
              refine wp_region_E (S := fun W => W.cell? ⟨br, offr + i * 2, none⟩ = some (.slice Ar nr cr) ∧ W.cell? ⟨br, offr + i * 2 + 1, none⟩ = some (.int .i64 sr)) (E := fun _ => false) (by kernel_rfl) ?_
              have hbi : Below wr.heap.size wr wr.drew := (Below.refl _ _).drew
              generalize wr.drew = wi0 at hbi ⊢
              have HBi := Lib.hid (Below.refl wi0.heap.size wi0)
              have HB1 := Lib.hid (balloc HBi.out (.cells #[.slice A4 q c4] 28))
              have HO1 := Lib.hid (own_one (w := wi0) (e := 28) (.slice A4 q c4) (Nat.le_refl _))
              have HOw := Lib.hid (own_below HO.out hbi)
              have hlo : w.heap.size ≤ wi0.heap.size := Nat.le_trans HBx.out.size hbi.size
              have HBw := Lib.hid (HBx.out.trans (hbi.mono HBx.out.size))
              have HNew := Lib.hid (show ∀ x, wi0.heap.size ≤ x → NO w.heap.size (.slice A (nL + i) cA) x from fun x hx => ⟨Nat.le_trans hlo hx, fun e => by have := (HOw.out.lt x e).2; omega⟩)
              have HRow := Lib.hid (hvq.mv (Mv.below hbi))
              have HTr := Lib.hid (HTr0.out.mv (Mv.below hbi))
              have HVc := Lib.hid (show ∀ W, Below wi0.heap.size wi0 W → ∀ ad, Ar = some ad → ∀ j u, vs[j]? = some u → W.cell? (ad.add j) = some u from fun W hW ad had j u hu => by
                have h1 := hvc ad had j u hu
                exact ((hbi.trans (hW.mono hbi.size)).cell (cell_lt h1)).trans h1)
              have Keep := Lib.hid (show ∀ W, Below wi0.heap.size wi0 W → W.cell? ⟨br, offr + i * 2, none⟩ = some (.slice Ar nr cr) ∧ W.cell? ⟨br, offr + i * 2 + 1, none⟩ = some (.int .i64 sr) from fun W hW =>
                ⟨((hbi.trans (hW.mono hbi.size)).cell (p := ⟨br, offr + i * 2, none⟩) hbrw).trans e0, ((hbi.trans (hW.mono hbi.size)).cell (p := ⟨br, offr + i * 2 + 1, none⟩) hbrw).trans e1⟩)
              have KeepO := Lib.hid (show ∀ (W w9 : World) (A9 : Option Addr) (c9 : Nat), Below wi0.heap.size wi0 W → Mv (NO w.heap.size (.slice A (nL + i) cA)) (NO w.heap.size (.slice A9 (nL + (i + 1)) c9)) W w9 → w9.cell? ⟨br, offr + i * 2, none⟩ = some (.slice Ar nr cr) ∧ w9.cell? ⟨br, offr + i * 2 + 1, none⟩ = some (.int .i64 sr) from fun W w9 A9 c9 hW hm => by
                obtain ⟨k0, k1⟩ := Keep.out W hW
                have hl : br < W.heap.size := Nat.lt_of_lt_of_le hbrw (Nat.le_trans hbi.size hW.size)
                exact ⟨((hm.2 br hNr hl).2 _).trans k0, ((hm.2 br hNr hl).2 _).trans k1⟩)
              have HSn := Lib.hid (show ∀ (W w9 : World) (A6 : Option Addr) (c6 : Nat) (A9 : Option Addr) (c9 : Nat), Below wi0.heap.size wi0 W → TblN (NO w.heap.size (.slice A (nL + i) cA)) W A6 (intL (t.take q) :: (sgC ss (t.drop q)).map intL) → Mv (NO w.heap.size (.slice A (nL + i) cA)) (NO w.heap.size (.slice A9 (nL + (i + 1)) c9)) W w9 →
                  CutsQ f (NO w.heap.size (.slice A9 (nL + (i + 1)) c9)) w9 (ps ++ [(.slice A6 (nr + 1) c6, .int .i64 z)]) t (L ++ (R.take (i + 1)).map fun r => q :: r) ∧ CutsN f (NO w.heap.size (.slice A9 (nL + (i + 1)) c9)) w9 (some ⟨br, offr, none⟩) (t.drop q) R ∧ IntsN (NO w.heap.size (.slice A9 (nL + (i + 1)) c9)) w9 A4 (intL (t.take q)) from fun W w9 A6 c6 A9 c9 hW h6 hm => by
                have hb := hbi.trans (hW.mono hbi.size)
                refine ⟨?_, (HR.out.mv (Mv.below hb)).mv hm, (HTr0.out.mv (Mv.below hb)).mv hm⟩
                rw [HSn0.out, ← List.append_assoc]
                exact ((HQ.out.mv (Mv.below hb)).mv hm).snoc (by rw [List.length_cons, HNr.out]) HSz.out (by rw [HSs.out]; exact h6.mv hm))
              have cl := Lib.hid (fun (W : World) (hW : Below wi0.heap.size wi0 W) => cl0.out W (HBw.out.trans (hW.mono HBw.out.size)) (HTr.out.mv (Mv.below hW)).at)
              have hS := Keep.out _ HBi.out
              clear e0 e1 hbi hvq hvc hv1 hvn hvl hT hcut hsb hlb hz cl0
              refine anyE_tk 0 58 (oi := ?oi1) (v := ?v1) ?hi1 ?hd1 (by kernel_rfl) (by kernel_rfl) (by kernel_rfl) ?hQ1 ?hy1 hS ?rest1
              case hi1 => simp only [List.getElem?_toArray, List.getElem?_cons_zero, List.getElem?_cons_succ]; rfl
              case hd1 => rfl
              case hQ1 => exact fun _ _ _ h => h
              case hy1 => (refine Or.inl ⟨by rfl, ?_⟩; intro w hSw; (try dsimp only at hSw); go_simp; try with_reducible rfl)
              simp only [List.setIfInBounds_toArray, List.set_cons_zero, List.set_cons_succ]
              refine anyE_tk 1 59 (oi := ?oi2) (v := ?v2) ?hi2 ?hd2 (by kernel_rfl) (by kernel_rfl) (by kernel_rfl) ?hQ2 ?hy2 hS ?rest2
              case hi2 => simp only [List.getElem?_toArray, List.getElem?_cons_zero, List.getElem?_cons_succ]; rfl
              case hd2 => rfl
              case hQ2 => exact fun _ _ _ h => h
              case hy2 => (refine Or.inl ⟨by rfl, ?_⟩; intro w hSw; (try dsimp only at hSw); go_simp; try with_reducible rfl)
              simp only [List.setIfInBounds_toArray, List.set_cons_zero, List.set_cons_succ]
              refine anyE_tk 3 61 (oi := ?oi3) (v := ?v3) ?hi3 ?hd3 (by kernel_rfl) (by kernel_rfl) (by kernel_rfl) ?hQ3 ?hy3 hS ?rest3
              case hi3 => simp only [List.getElem?_toArray, List.getElem?_cons_zero, List.getElem?_cons_succ]; rfl
              case hd3 => rfl
              case hQ3 => exact fun _ _ _ h => h
              case hy3 => (refine Or.inl ⟨by rfl, ?_⟩; intro w hSw; (try dsimp only at hSw); go_simp; try with_reducible rfl)
              simp only [List.setIfInBounds_toArray, List.set_cons_zero, List.set_cons_succ]
              refine anyE_tk 4 62 (oi := ?oi4) (v := ?v4) ?hi4 ?hd4 (by kernel_rfl) (by kernel_rfl) (by kernel_rfl) ?hQ4 ?hy4 hS ?rest4
              case hi4 => simp only [List.getElem?_toArray, List.getElem?_cons_zero, List.getElem?_cons_succ]; rfl
              case hd4 => rfl
              case hQ4 => exact fun _ _ _ h => h
              case hy4 => (refine Or.inl ⟨by rfl, ?_⟩; intro w hSw; (try dsimp only at hSw); go_simp; try with_reducible rfl)
              simp only [List.setIfInBounds_toArray, List.set_cons_zero, List.set_cons_succ]
              refine anyE_tk 5 63 (oi := ?oi5) (v := ?v5) ?hi5 ?hd5 (by kernel_rfl) (by kernel_rfl) (by kernel_rfl) ?hQ5 ?hy5 hS ?rest5
              case hi5 => simp only [List.getElem?_toArray, List.getElem?_cons_zero, List.getElem?_cons_succ]; rfl
              case hd5 => rfl
              case hQ5 => exact fun _ _ _ h => h
              case hy5 => (refine Or.inl ⟨by rfl, ?_⟩; intro w hSw; (try dsimp only at hSw); go_simp; try with_reducible rfl)
              simp only [List.setIfInBounds_toArray, List.set_cons_zero, List.set_cons_succ]
              refine anyE_tk 6 64 (oi := ?oi6) (v := ?v6) ?hi6 ?hd6 (by kernel_rfl) (by kernel_rfl) (by kernel_rfl) ?hQ6 ?hy6 hS ?rest6
              case hi6 => simp only [List.getElem?_toArray, List.getElem?_cons_zero, List.getElem?_cons_succ]; rfl
              case hd6 => rfl
              case hQ6 => exact fun _ _ _ h => h
              case hy6 => (refine Or.inl ⟨by rfl, ?_⟩; intro w hSw; (try dsimp only at hSw); go_simp; try with_reducible rfl)
              simp only [List.setIfInBounds_toArray, List.set_cons_zero, List.set_cons_succ]
              refine anyE_tk 7 65 (oi := ?oi7) (v := ?v7) ?hi7 ?hd7 (by kernel_rfl) (by kernel_rfl) (by kernel_rfl) ?hQ7 ?hy7 hS ?rest7
              case hi7 => simp only [List.getElem?_toArray, List.getElem?_cons_zero, List.getElem?_cons_succ]; rfl
              case hd7 => rfl
              case hQ7 => exact fun _ _ _ h => h
              case hy7 => (refine Or.inl ⟨by rfl, ?_⟩; intro w hSw; (try dsimp only at hSw); go_simp; try with_reducible rfl)
              simp only [List.setIfInBounds_toArray, List.set_cons_zero, List.set_cons_succ]
              refine anyE_tk 9 67 (oi := ?oi8) (v := ?v8) ?hi8 ?hd8 (by kernel_rfl) (by kernel_rfl) (by kernel_rfl) ?hQ8 ?hy8 hS ?rest8
              case hi8 => simp only [List.getElem?_toArray, List.getElem?_cons_zero, List.getElem?_cons_succ]; rfl
              case hd8 => rfl
              case hQ8 => exact fun _ _ _ h => h
              case hy8 => (refine Or.inl ⟨by rfl, ?_⟩; intro w hSw; (try dsimp only at hSw); go_simp; try with_reducible rfl)
              simp only [List.setIfInBounds_toArray, List.set_cons_zero, List.set_cons_succ]
              refine anyE_tk 10 68 (oi := ?oi9) (v := ?v9) ?hi9 ?hd9 (by kernel_rfl) (by kernel_rfl) (by kernel_rfl) ?hQ9 ?hy9 hS ?rest9
              case hi9 => simp only [List.getElem?_toArray, List.getElem?_cons_zero, List.getElem?_cons_succ]; rfl
              case hd9 => rfl
              case hQ9 => exact fun _ _ _ h => h
              case hy9 => (refine Or.inl ⟨by rfl, ?_⟩; intro w hSw; (try dsimp only at hSw); go_simp; try with_reducible rfl)
              simp only [List.setIfInBounds_toArray, List.set_cons_zero, List.set_cons_succ]
              refine anyE_tk 11 69 (oi := ?oi10) (v := ?v10) ?hi10 ?hd10 (by kernel_rfl) (by kernel_rfl) (by kernel_rfl) ?hQ10 ?hy10 hS ?rest10
              case hi10 => simp only [List.getElem?_toArray, List.getElem?_cons_zero, List.getElem?_cons_succ]; rfl
              case hd10 => rfl
              case hQ10 => exact fun _ _ _ h => h
              case hy10 => (refine Or.inl ⟨by rfl, ?_⟩; intro w hSw; (try dsimp only at hSw); go_simp; try with_reducible rfl)
              simp only [List.setIfInBounds_toArray, List.set_cons_zero, List.set_cons_succ]
              refine anyE_tk 12 70 (oi := ?oi11) (v := ?v11) ?hi11 ?hd11 (by kernel_rfl) (by kernel_rfl) (by kernel_rfl) ?hQ11 ?hy11 hS ?rest11
              case hi11 => simp only [List.getElem?_toArray, List.getElem?_cons_zero, List.getElem?_cons_succ]; rfl
              case hd11 => rfl
              case hQ11 => exact fun _ _ _ h => h
              case hy11 => (refine Or.inl ⟨by rfl, ?_⟩; intro w hSw; (try dsimp only at hSw); go_simp; try with_reducible rfl)
              simp only [List.setIfInBounds_toArray, List.set_cons_zero, List.set_cons_succ]
              refine anyE_tk 13 71 (oi := ?oi12) (v := ?v12) ?hi12 ?hd12 (by kernel_rfl) (by kernel_rfl) (by kernel_rfl) ?hQ12 ?hy12 hS ?rest12
              case hi12 => simp only [List.getElem?_toArray, List.getElem?_cons_zero, List.getElem?_cons_succ]; rfl
              case hd12 => rfl
              case hQ12 => exact fun _ _ _ h => h
              case hy12 => (refine Or.inl ⟨by rfl, ?_⟩; intro w hSw; (try dsimp only at hSw); go_simp; try with_reducible rfl)
              simp only [List.setIfInBounds_toArray, List.set_cons_zero, List.set_cons_succ]
              refine anyE_tk 14 72 (oi := ?oi13) (v := ?v13) ?hi13 ?hd13 (by kernel_rfl) (by kernel_rfl) (by kernel_rfl) ?hQ13 ?hy13 hS ?rest13
              case hi13 => simp only [List.getElem?_toArray, List.getElem?_cons_zero, List.getElem?_cons_succ]; rfl
              case hd13 => rfl
              case hQ13 => exact fun _ _ _ h => h
              case hy13 => (refine Or.inl ⟨by rfl, ?_⟩; intro w hSw; (try dsimp only at hSw); go_simp; try with_reducible rfl)
              simp only [List.setIfInBounds_toArray, List.set_cons_zero, List.set_cons_succ]
              refine anyE_tk 15 73 (oi := ?oi14) (v := ?v14) ?hi14 ?hd14 (by kernel_rfl) (by kernel_rfl) (by kernel_rfl) ?hQ14 ?hy14 hS ?rest14
              case hi14 => simp only [List.getElem?_toArray, List.getElem?_cons_zero, List.getElem?_cons_succ]; rfl
              case hd14 => rfl
              case hQ14 => exact fun _ _ _ h => h
              case hy14 => (refine Or.inl ⟨by rfl, ?_⟩; intro w hSw; (try dsimp only at hSw); go_simp; try with_reducible rfl)
              simp only [List.setIfInBounds_toArray, List.set_cons_zero, List.set_cons_succ]
              clear hS
              refine anyE_one (i := 2) (o := ?oi15) (by kernel_rfl) ?hi15 (fun K hK => ?step15)
              case hi15 => simp only [List.getElem?_toArray, List.getElem?_cons_zero, List.getElem?_cons_succ]; rfl
              go_simp
              go_wp2_with fail
              refine hK.out _ _ (fun _ => Keep.out _ HB1.out) ?_
              clear hK K
              try simp only [Act.put, List.setIfInBounds_toArray, List.set_cons_zero, List.set_cons_succ]
              refine anyE_one (i := 8) (o := ?oi16) (by kernel_rfl) ?hi16 (fun K hK => ?step16)
              case hi16 => simp only [List.getElem?_toArray, List.getElem?_cons_zero, List.getElem?_cons_succ]; rfl
              refine step_app' _ (by rfl) (.tmp 60) (.tmp 65) 22 (by rfl) wi0.heap.size 28 i28 _ 1 24 Try.underlying22 hi28 hz28 hs28 hb28 (by rfl) (by decide) (.slice (some ⟨wi0.heap.size, 0, none⟩) 1 1) 1 [.slice A4 q c4] (by rfl)
                HO1.out Ar nr cr vs (by rfl) (by rw [HVl.out, Nat.mul_one]) HVn.out (HVc.out _ HB1.out) HV1.out (by omega) (by decide) HB1.out.size (nr + 1) (Nat.add_comm _ _) (.slice A4 q c4 :: vs) (by rfl) ?_
              intro A6 c6 w6 hown6 hg6 hlow6
              have HB6 := Lib.hid (HB1.out.grown hg6 HB1.out.size hlow6)
              have HT6 := Lib.hid (((HRow.out.mv (Mv.below HB6.out)).cons Htl.out (HTr.out.mv (Mv.below HB6.out))).tbl hown6 (by rw [List.length_cons, HRl0.out, HNr.out]) (fun b h1 h2 => HNew.out b h1))
              clear hown6 hg6 hlow6
              refine hK.out _ _ (fun _ => Keep.out _ HB6.out) ?_
              clear hK K
              try simp only [Act.put, List.setIfInBounds_toArray, List.set_cons_zero, List.set_cons_succ]
              refine anyE_one (i := 16) (o := ?oi17) (by kernel_rfl) ?hi17 (fun K hK => ?step17)
              case hi17 => simp only [List.getElem?_toArray, List.getElem?_cons_zero, List.getElem?_cons_succ]; rfl
              go_simp
              refine (cl.out _ HB6.out).mono ?_
              rintro e w7 ⟨rfl, hd7⟩
              have HB7 := Lib.hid (HB6.out.trans (hd7.mono HB6.out.size))
              have HT7 := Lib.hid (HT6.out.mv (Mv.below hd7))
              clear hd7
              go_wp2_with fail
              refine hK.out _ _ (fun _ => Keep.out _ HB7.out) ?_
              clear hK K
              try simp only [Act.put, List.setIfInBounds_toArray, List.set_cons_zero, List.set_cons_succ]
              refine anyE_one (i := 17) (o := ?oi18) (by kernel_rfl) ?hi18 (fun K hK => ?step18)
              case hi18 => simp only [List.getElem?_toArray, List.getElem?_cons_zero, List.getElem?_cons_succ]; rfl
              go_simp
              go_wp2_with fail
              refine hK.out _ _ (fun _ => Keep.out _ HB7.out) ?_
              clear hK K
              try simp only [Act.put, List.setIfInBounds_toArray, List.set_cons_zero, List.set_cons_succ]
              refine anyE_one (i := 18) (o := ?oi19) (by kernel_rfl) ?hi19 (fun K hK => ?step19)
              case hi19 => simp only [List.getElem?_toArray, List.getElem?_cons_zero, List.getElem?_cons_succ]; rfl
              go_simp
              go_wp2_with fail
              refine hK.out _ _ (fun _ => Keep.out _ HB7.out) ?_
              clear hK K
              try simp only [Act.put, List.setIfInBounds_toArray, List.set_cons_zero, List.set_cons_succ]
              refine anyE_one (i := 19) (o := ?oi20) (by kernel_rfl) ?hi20 (fun K hK => ?step20)
              case hi20 => simp only [List.getElem?_toArray, List.getElem?_cons_zero, List.getElem?_cons_succ]; rfl
              go_simp
              go_wp2_with fail
              refine hK.out _ _ (fun _ => Keep.out _ (balloc HB7.out _)) ?_
              clear hK K
              try simp only [Act.put, List.setIfInBounds_toArray, List.set_cons_zero, List.set_cons_succ]
              have HB8 := Lib.hid (balloc HB7.out (.cells #[.slice A6 (nr + 1) c6, .int .i64 z] 103))
              refine anyE_one (i := 20) (o := ?oi21) (by kernel_rfl) ?hi21 (fun K hK => ?step21)
              case hi21 => simp only [List.getElem?_toArray, List.getElem?_cons_zero, List.getElem?_cons_succ]; rfl
              refine step_app2 _ (by rfl) (.tmp 58) (.tmp 77) 100 (by rfl) w.heap.size 103 i103 _ 2 32 Try.underlying100 hi103 hz103 hs103 hb103 (by rfl) (by decide) (.slice A (nL + i) cA) (nL + i) (flatV ps) (by rfl)
                (own_below HOw.out HB8.out) ⟨w7.heap.size, 0, none⟩ 1 1 [.slice A6 (nr + 1) c6, .int .i64 z] (by rfl) (by rfl) (news_blk (t := 103) (cs := #[.slice A6 (nr + 1) c6, .int .i64 z]) (blk_new' rfl) _ rfl)
                (by simp [Value.oneCell']) (by omega) (by decide) (Nat.le_trans hlo HB8.out.size) (nL + (i + 1)) (Nat.add_assoc _ _ _) (flatV (ps ++ [(.slice A6 (nr + 1) c6, .int .i64 z)])) (flatV_snoc _ _ _).symm ?_
              intro A9 c9 w9 hown9 hg9 hlow9 hat9
              have hmv := Mv.grownO (lo := w.heap.size) hg9 hat9
              have HQ9 := Lib.hid (HSn.out _ _ A6 c6 A9 c9 HB8.out (HT7.out.mv (Mv.below (balloc (Below.refl _ _) _))) hmv)
              have HB9 := Lib.hid ((HBw.out.trans (HB8.out.mono HBw.out.size)).grown hg9 (Nat.le_trans hlo HB8.out.size) hlow9)
              have HO9 := Lib.hid hown9
              have HS9 := Lib.hid (KeepO.out _ _ _ _ HB8.out hmv)
              clear hown9 hg9 hlow9 hat9 hmv
              refine hK.out _ _ (fun _ => HS9.out) ?_
              clear hK K
              try simp only [Act.put, List.setIfInBounds_toArray, List.set_cons_zero, List.set_cons_succ]
              refine anyE_one (i := 21) (o := ?oi22) (by kernel_rfl) ?hi22 (fun K hK => ?step22)
              case hi22 => simp only [List.getElem?_toArray, List.getElem?_cons_zero, List.getElem?_cons_succ]; rfl
              go_simp
              go_wp2_with fail
              refine hK.out _ _ (fun _ => HS9.out) ?_
              clear hK K
              try simp only [Act.put, List.setIfInBounds_toArray, List.set_cons_zero, List.set_cons_succ]
              refine anyE_done (by kernel_rfl) ?_ _
              go_wp2_with fail
              go_roundw
              case rel => exact ⟨i + 1, ps ++ [(Value.slice A6 (nr + 1) c6, Value.int .i64 z)], A9, c9, by omega, by go_num, rfl, HO9.out, HQ9.out.1, HQ9.out.2.1, HQ9.out.2.2, HB9.out⟩
              case measure => simp [intOf]; omega
            · obtain rfl : i = R.length := by omega
              have HF2 := Lib.hid (show CutF (fun x => g x 3) cap t q (L ++ R.map fun r => q :: r) from by
                rw [Hqk.out]
                have h1 := HLd.out
                have h2 := HcR.out
                rw [Hqk.out] at h1 h2
                exact HF.out.next hlt h1 h2)
              have HLn := Lib.hid (show (L ++ R.map fun r => q :: r).length = nL + R.length by rw [List.length_append, List.length_map, HNl.out])
              have HQ2 := Lib.hid HQ.out
              rw [List.take_length] at HQ2
              go_wp2_with fail
              go_roundw
              case rel => exact ⟨q, nL + R.length, L ++ R.map fun r => q :: r, ps, A, cA, by omega, by go_num, by rw [HLe.out], rfl, HLn.out, HO.out, HQ2.out, HF2.out, HBx.out⟩
              case measure => simp [intOf]; omega
      · obtain rfl : k = t.length := by omega
        have HA := Lib.hid (HF.out.all hpos fun m hm1 hm2 => by omega)
        go_wp2_with fail
        go_ret
        exact ⟨A, cA, L, by rw [HNl.out]; rfl, HA.out, HQ.out.cuts HO.out HNl.out (fun b hb => hb) (fun b hb => hb.1), HBr.out⟩
end
end Go.Proofs.Ytmodbpglopfghaa
