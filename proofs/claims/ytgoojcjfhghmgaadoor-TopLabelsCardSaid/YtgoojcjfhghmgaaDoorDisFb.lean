/- Copy. -/
import Derived.Test.YtgoojcjfhghmgaaDoorDisFe
import Derived.Deep.RegionHeld3
import Derived.Deep.RegionWith
import Derived.Deep.DeepCutAuto
set_option linter.unusedSimpArgs false
namespace Go.Proofs.YtgoojcjfhghmgaaDoor
open Go.RowKit

/-- Ints, rules in allowed blocks. -/
def IntsN (N : Nat → Prop) (B : Nat) (w : World) (A : Option Addr) (zs : List Int) : Prop := ∀ j (hj : j < zs.length), ∃ b off, A = some ⟨b, off, none⟩ ∧ N b ∧ b < B ∧ w.cell? ⟨b, off + j, none⟩ = some (.int .i64 zs[j])
theorem IntsN.at {N : Nat → Prop} {B : Nat} {w : World} {A : Option Addr} {zs : List Int} (h : IntsN N B w A zs) : IntsAt B w A zs := fun j hj => by
  obtain ⟨b, off, e, _, hb, hc⟩ := h j hj
  refine ⟨b, off, e, hb, fun i hi => ?_⟩
  obtain rfl : i = 0 := by omega
  rw [Nat.mul_one, Nat.add_zero, hc]
  simp [hj]
theorem IntsAt.ne {N : Nat → Prop} {B : Nat} {w : World} {A : Option Addr} {zs : List Int} (h : IntsAt B w A zs) (hg : ∀ a, A = some a → a.block < B → N a.block) : IntsN N B w A zs := fun j hj => by
  obtain ⟨b, off, e, hb, hc⟩ := h.at hj
  exact ⟨b, off, e, hg _ e hb, hb, hc⟩
theorem IntsN.keep {N : Nat → Prop} {g : Nat} {a w : World} {A : Option Addr} {zs : List Int} (h : IntsN N a.heap.size a A zs) (hN : ∀ b, N b → b ≠ g) (o : Only g a w) : IntsN N w.heap.size w A zs := fun j hj => by
  obtain ⟨b, off, e, hn, hb, hc⟩ := h j hj
  exact ⟨b, off, e, hn, Nat.lt_of_lt_of_le hb o.size, (o.cell (p := ⟨b, off + j, none⟩) hb (hN b hn)).trans hc⟩
def RusN (N : Nat → Prop) (w : World) (A : Option Addr) (l : List Ru) : Prop :=
  ∀ k (hk : k < l.length), ∃ b off A1 c1, A = some ⟨b, off, none⟩ ∧ N b ∧ b < w.heap.size ∧ w.cell? ⟨b, off + k * 2, none⟩ = some (.slice A1 l[k].1.length c1) ∧ w.cell? ⟨b, off + k * 2 + 1, none⟩ = some (.int .i64 l[k].2) ∧ IntsN N w.heap.size w A1 l[k].1
theorem RusN.at {N : Nat → Prop} {w : World} {A : Option Addr} {l : List Ru} (h : RusN N w A l) : RusAt w.heap.size w A l := fun k hk => by
  obtain ⟨b, off, A1, c1, e, _, h1, h2, h3, h4⟩ := h k hk
  exact ⟨b, off, A1, c1, e, h1, h2, h3, h4.at⟩
theorem RusN.keep {N : Nat → Prop} {g : Nat} {a w : World} {A : Option Addr} {l : List Ru} (h : RusN N a A l) (hN : ∀ b, N b → b ≠ g) (o : Only g a w) : RusN N w A l := fun k hk => by
  obtain ⟨b, off, A1, c1, e, hn, h1, h2, h3, h4⟩ := h k hk
  exact ⟨b, off, A1, c1, e, hn, Nat.lt_of_lt_of_le h1 o.size, (o.cell (p := ⟨b, off + k * 2, none⟩) h1 (hN b hn)).trans h2, (o.cell (p := ⟨b, off + k * 2 + 1, none⟩) h1 (hN b hn)).trans h3, h4.keep hN o⟩
theorem FarR.ne {N : Nat → Prop} {lo : Nat} {w : World} {A : Option Addr} {l : List Ru} (h : FarR lo w A l) (hN : ∀ b, lo ≤ b → b < w.heap.size → N b) : RusN N w A l := fun k hk => by
  obtain ⟨b, off, A1, c1, e, h0, h1, h2, h3, h4, h5⟩ := h k hk
  exact ⟨b, off, A1, c1, e, hN b h0 h1, h1, h2, h3, h4.ne fun a ha hlt => hN _ (h5 a ha) hlt⟩
theorem LstN.put {g : Option Nat} {w : World} {vs : List Value} {os : List (List Int)} {lo G : Nat} (h : LstN g w vs os) (hv : LoV lo vs) (hG : G < lo) (i : Nat) (u : Value) : LstN g (w.setCell ⟨G, i, none⟩ u) vs os := by
  have ho : Only G w (w.setCell ⟨G, i, none⟩ u) := (Only.refl _ _).put i u
  refine ⟨h.1, fun j hj => ?_⟩
  obtain ⟨A, c, e, h2, h3, h4⟩ := h.2 j hj
  refine ⟨A, c, e, ?_, fun a ha => ?_, h4⟩
  · have hne : IntsN (· ≠ G) w.heap.size w A os[j] := h2.ne fun a ha _ => by
      subst ha
      have := hv _ (List.mem_of_getElem? e) a _ _ rfl
      omega
    exact (hne.keep (fun _ h => h) ho).at
  · obtain ⟨h5, h6, h7⟩ := h3 a ha
    exact ⟨Nat.lt_of_lt_of_le h5 ho.size, h6, h7⟩
/-- The items copied so far. -/
def ItC (lo : Nat) (out : Value) (w : World) (ps : List (Value × Value)) (l : List It) (k : Nat) : Prop :=
  ps.length = k ∧ w.ownsRow lo 84 2 out k (flatV ps) ∧ LstN out.ownBlock w (ps.map (·.1)) ((l.take k).map (·.1)) ∧ LstN out.ownBlock w (ps.map (·.2)) ((l.take k).map (·.2)) ∧ LoV lo (ps.map (·.1)) ∧ LoV lo (ps.map (·.2))
theorem ItC.put {lo G k : Nat} {out : Value} {w : World} {ps : List (Value × Value)} {l : List It} (h : ItC lo out w ps l k) (hG : G < lo) (i : Nat) (u : Value) : ItC lo out (w.setCell ⟨G, i, none⟩ u) ps l k := by
  obtain ⟨h1, h2, h3, h4, h5, h6⟩ := h
  exact ⟨h1, ((Only.refl G w).put i u).own h2 (own_ne h2 hG), h3.put h5 hG i u, h4.put h6 hG i u, h5, h6⟩
theorem ItC.snoc {lo k n1 n2 c6 c7 : Nat} {out : Value} {wr W w8 : World} {ps : List (Value × Value)} {l : List It} {A6 A7 A8 : Option Addr} {c8 : Nat} (h : ItC lo out wr ps l k) (hk : k < l.length) (hn1 : n1 = l[k].1.length) (hn2 : n2 = l[k].2.length)
    (hW : Below wr.heap.size wr W) (hlo : lo ≤ wr.heap.size) (ho1 : W.ownsRow wr.heap.size 3 1 (.slice A6 n1 c6) n1 (l[k].1.map (Value.int .i64))) (ho2 : W.ownsRow wr.heap.size 3 1 (.slice A7 n2 c7) n2 (l[k].2.map (Value.int .i64)))
    (hown : w8.ownsRow lo 84 2 (.slice A8 (k + 1) c8) (k + 1) (flatV (ps ++ [(.slice A6 n1 c6, .slice A7 n2 c7)]))) (hg : W.grownBy w8 out.ownBlock) (hat : ∀ j, (Value.slice A8 (k + 1) c8).ownBlock = some j → out.ownBlock = some j ∨ j = W.heap.size) :
    ItC lo (.slice A8 (k + 1) c8) w8 (ps ++ [(.slice A6 n1 c6, .slice A7 n2 c7)]) l (k + 1) := by
  obtain ⟨h1, h2, h3, h4, h5, h6⟩ := h
  have hlt : ∀ j, out.ownBlock = some j → j < wr.heap.size := fun j hj => (h2.lt j hj).2
  have e1 : (l.take (k + 1)).map (·.1) = (l.take k).map (·.1) ++ [l[k].1] := by rw [List.take_succ_eq_append_getElem hk, List.map_append]; rfl
  have e2 : (l.take (k + 1)).map (·.2) = (l.take k).map (·.2) ++ [l[k].2] := by rw [List.take_succ_eq_append_getElem hk, List.map_append]; rfl
  refine ⟨by rw [List.length_append, h1]; rfl, hown, ?_, ?_, ?_, ?_⟩
  · rw [e1, List.map_append]; exact lst_step (e := 3) hg hat hW ho1 h3 hlt hn1.symm
  · rw [e2, List.map_append]; exact lst_step (e := 3) hg hat hW ho2 h4 hlt hn2.symm
  · rw [List.map_append]; exact h5.snoc fun a ha => Nat.le_trans hlo ((own_caps ho1).2.2 a ha).1
  · rw [List.map_append]; exact h6.snoc fun a ha => Nat.le_trans hlo ((own_caps ho2).2.2 a ha).1
theorem g_cell {W w8 : World} {G i : Nat} {v : Value} {row : Option Nat} (hg : W.grownBy w8 row) (hne : some G ≠ row) (hlt : G < W.heap.size) (h : W.cell? ⟨G, i, none⟩ = some v) : w8.cell? ⟨G, i, none⟩ = some v :=
  (World.cell?_of_block (hg.block G hlt hne)).trans h
theorem g_frozen {W w8 : World} {G i : Nat} {row : Option Nat} (hg : W.grownBy w8 row) (hne : some G ≠ row) (hlt : G < W.heap.size) (h : W.frozen? ⟨G, i, none⟩ = false) : w8.frozen? ⟨G, i, none⟩ = false :=
  (World.frozen?_of_block (hg.block G hlt hne)).trans h
/-- The rules and the new book behind the first statement. -/
def Cut1 (lo G : Nat) (b : Bk) (A5 : Option Addr) (c5 : Nat) (wx : World) : Prop := lo < G ∧ Blk wx G 25 #[.int .i64 b.p, .slice none 0 0, .slice A5 b.rus.length c5] ∧ RusN (fun b => b ≠ G ∧ b ≠ lo) wx A5 b.rus
theorem cutA {lo c5 : Nat} {b : Bk} {A5 : Option Addr} {base : Nat} {w5 : World} (h : FarR base w5 A5 b.rus) (hlo : lo < base) (hb5 : base ≤ w5.heap.size) : Cut1 lo w5.heap.size b A5 c5 (w5.alloc (.cells #[.int .i64 b.p, .slice none 0 0, .slice A5 b.rus.length c5] 25)) :=
  ⟨Nat.lt_of_lt_of_le hlo hb5, Blk.new w5 25 _, (h.ne fun b h1 h2 => ⟨by omega, by omega⟩).keep (fun _ h => h.1) ((Only.refl _ _).alloc _)⟩
theorem cutB {lo c5 G : Nat} {b : Bk} {A5 : Option Addr} {W w5 : World} (hd : Below W.heap.size W w5) (hb : Blk W G 25 #[.int .i64 0, .slice none 0 0, .slice none 0 0]) (h : FarR W.heap.size w5 A5 b.rus) (hlo : lo < G) :
    Cut1 lo G b A5 c5 (((w5.setCell ⟨G, 0, none⟩ (.int .i64 b.p)).setCell ⟨G, 1, none⟩ (.slice none 0 0)).setCell ⟨G, 2, none⟩ (.slice A5 b.rus.length c5)) :=
  ⟨hlo, (((hb.below hd hb.lt).put 0 _).put 1 _).put 2 _, (h.ne fun b h1 _ => ⟨by have := hb.lt; omega, by have := hb.lt; omega⟩).keep (fun _ h => h.1) ((((Only.refl _ _).put 0 _).put 1 _).put 2 _)⟩
/-- The items that were copied, in the end. -/
theorem ItC.at {lo c : Nat} {A : Option Addr} {w : World} {ps : List (Value × Value)} {l : List It} (h : ItC lo (.slice A l.length c) w ps l l.length) : ItsAt w.heap.size w A l := by
  obtain ⟨h1, h2, h3, h4, _, _⟩ := h
  intro k hk
  have hkp : k < ps.length := by omega
  obtain ⟨g, rfl, hg, q0, q1⟩ := own_cell2 h2 h1 hkp
  rw [List.take_length] at h3 h4
  obtain ⟨A1, c1, e1, i1, _⟩ := h3.2 k (by simpa using hk)
  obtain ⟨A2, c2, e2, i2, _⟩ := h4.2 k (by simpa using hk)
  simp only [List.getElem_map] at e1 i1 e2 i2
  have e1' : ps[k].1 = .slice A1 l[k].1.length c1 := by
    rw [List.getElem?_map, List.getElem?_eq_getElem hkp] at e1
    simpa using e1
  have e2' : ps[k].2 = .slice A2 l[k].2.length c2 := by
    rw [List.getElem?_map, List.getElem?_eq_getElem hkp] at e2
    simpa using e2
  refine ⟨g, 0, A1, c1, A2, c2, rfl, hg, ?_, ?_, i1, i2⟩
  · rw [Nat.zero_add, q0, e1']
  · rw [Nat.zero_add, q1, e2']
theorem below_put' {B : Nat} {w W : World} (h : Below B w W) {g : Nat} (hg : B ≤ g) (i : Nat) (u : Value) : Below B w (W.setCell ⟨g, i, none⟩ u) :=
  h.trans (Below.setCell (Below.refl _ _) hg u)
theorem below_if {W w5 : World} (hd : Below W.heap.size W w5) (g i : Nat) : w5.cell? ⟨g, i, none⟩ = (if g < W.heap.size then W.cell? ⟨g, i, none⟩ else w5.cell? ⟨g, i, none⟩) := by
  split
  · rename_i h; exact hd.cell (p := ⟨g, i, none⟩) h
  · rfl
theorem below_iff {W w5 : World} (hd : Below W.heap.size W w5) (g i : Nat) : w5.frozen? ⟨g, i, none⟩ = (if g < W.heap.size then W.frozen? ⟨g, i, none⟩ else w5.frozen? ⟨g, i, none⟩) := by
  split
  · rename_i h; exact hd.frozen (p := ⟨g, i, none⟩) h
  · rfl
theorem cell_newN {V : World} {n i : Nat} {cs : Array Value} {t : TypeId} (h : V.heap.size = n) : (V.alloc (.cells cs t)).cell? ⟨n, i, none⟩ = cs[i]? := (blk_new' h).cell i
theorem frozen_newN {V : World} {n i : Nat} {cs : Array Value} {t : TypeId} (h : V.heap.size = n) : (V.alloc (.cells cs t)).frozen? ⟨n, i, none⟩ = false := (blk_new' h).frozen i

set_option maxRecDepth 100000 in
set_option maxHeartbeats 4000000 in
theorem Copy_ref (AI AR : Option Addr) (cI cR B : Nat) (b : Bk) (w : World) (hB : B ≤ w.heap.size) (h : ItsAt B w AI b.its) (h' : RusAt B w AR b.rus) (hs : Short b) :
    Calls Tryd.prog 19 #[.agg #[.int .i64 b.p, .slice AI b.its.length cI, .slice AR b.rus.length cR]] w fun e w' => ∃ AI' AR' cI' cR', e = .returned (.agg #[.int .i64 b.p, .slice AI' b.its.length cI', .slice AR' b.rus.length cR']) ∧ ItsAt w'.heap.size w' AI' b.its ∧ RusAt w'.heap.size w' AR' b.rus ∧ Below w.heap.size w w' := by
  obtain ⟨j0, hj, hy0, hy1, hy2⟩ := info_parts info84
  obtain ⟨W0, hW0⟩ : ∃ W0, W0 = (w.alloc (.cells #[.int .i64 b.p, .slice AI b.its.length cI, .slice AR b.rus.length cR] 25)).alloc (.cells #[.int .i64 0, .slice none 0 0, .slice none 0 0] 25) := ⟨_, rfl⟩
  have hw0 : Below w.heap.size w W0 := by rw [hW0]; exact balloc (balloc (Below.refl _ _) _) _
  have hb0 : Blk W0 w.heap.size 25 #[.int .i64 b.p, .slice AI b.its.length cI, .slice AR b.rus.length cR] := by rw [hW0]; exact (Blk.new w 25 _).alloc _
  have hb1 : Blk W0 (w.heap.size + 1) 25 #[.int .i64 0, .slice none 0 0, .slice none 0 0] := by rw [hW0]; exact blk_new' (by simp only [World.size_alloc])
  have hsz : W0.heap.size = w.heap.size + 1 + 1 := by rw [hW0]; simp only [World.size_alloc]
  have hlt : w.heap.size < W0.heap.size := hb0.lt
  have hR := (h'.below (Below.refl _ _) hB).below hw0 (Nat.le_of_lt hlt)
  have H := Lib.hid (h.below (Below.refl _ _) hB)
  have c57 := Lib.hid (fun W (hW : Below W0.heap.size W0 W) => CopyRules_ref AR cR W0.heap.size b.rus W hW.size (hR.below hW (Nat.le_refl _)) hs.2.1 hs.2.2.2)
  have HB0 := Lib.hid hb0
  have HB1 := Lib.hid hb1
  have Hw := Lib.hid hw0
  have Hs3 := Lib.hid hs.2.2.1
  have ni := hs.1
  clear h h' hs hR hb0 hb1 hw0 hB hsz
  have tok := Lib.hid (Nat.le_refl 0)
  go_enter Tryd.func19, Tryd.ntmps19
  go_wp2_with fail
  rw [← hW0]
  clear hW0
  have z0 := HB0.out.cell 0
  have z1 := HB0.out.cell 1
  have z2 := HB0.out.cell 2
  have za := fun (V : World) (o : Obj) (i : Nat) (hV : w.heap.size < V.heap.size) => (show (V.alloc o).cell? ⟨w.heap.size, i, none⟩ = V.cell? ⟨w.heap.size, i, none⟩ from (Below.alloc (Below.refl V.heap.size V) (Nat.le_refl _) o).cell (p := ⟨w.heap.size, i, none⟩) hV)
  have a1 := fun (V : World) (i : Nat) => cell_newN (V := V) (n := V.heap.size) (i := i) (cs := #[.int .i64 0, .slice none 0 0, .slice none 0 0]) (t := 25) rfl
  have a2 := fun (V : World) (i : Nat) => show (V.alloc (.cells #[.int .i64 0, .slice none 0 0, .slice none 0 0] 25)).drew.cell? ⟨V.heap.size, i, none⟩ = #[Value.int .i64 0, .slice none 0 0, .slice none 0 0][i]? from a1 V i
  have a3 := fun (V : World) (i : Nat) => cell_newN (V := V.drew) (n := V.heap.size) (i := i) (cs := #[.int .i64 0, .slice none 0 0, .slice none 0 0]) (t := 25) rfl
  have a4 := fun (V : World) (i : Nat) => show (V.drew.alloc (.cells #[.int .i64 0, .slice none 0 0, .slice none 0 0] 25)).drew.cell? ⟨V.heap.size, i, none⟩ = #[Value.int .i64 0, .slice none 0 0, .slice none 0 0][i]? from a3 V i
  have g1 := fun (V : World) (i : Nat) => frozen_newN (V := V) (n := V.heap.size) (i := i) (cs := #[.int .i64 0, .slice none 0 0, .slice none 0 0]) (t := 25) rfl
  have g2 := fun (V : World) (i : Nat) => show (V.alloc (.cells #[.int .i64 0, .slice none 0 0, .slice none 0 0] 25)).drew.frozen? ⟨V.heap.size, i, none⟩ = false from g1 V i
  have g3 := fun (V : World) (i : Nat) => frozen_newN (V := V.drew) (n := V.heap.size) (i := i) (cs := #[.int .i64 0, .slice none 0 0, .slice none 0 0]) (t := 25) rfl
  have g4 := fun (V : World) (i : Nat) => show (V.drew.alloc (.cells #[.int .i64 0, .slice none 0 0, .slice none 0 0] 25)).drew.frozen? ⟨V.heap.size, i, none⟩ = false from g3 V i
  have HBB := Lib.hid (fun W (hW : Below W0.heap.size W0 W) => blk3 (HB0.out.below hW hlt))
  have hlt1 := Lib.hid HB1.out.lt
  go_cut [3] (fun s3 wx => ∃ G A5 c5, s3 = .pointer (some ⟨G, 0, none⟩) ∧ Aside (Cut1 (w.heap.size + 1) G b A5 c5 wx) ∧ Below W0.heap.size W0 wx)
  case first =>
    go_region_with (first
      | (go_at_call 57; have tk := tok; clear tok; refine (c57.out _ (by repeat (first | exact Below.refl _ _ | assumption | refine Below.drew ?_ | refine balloc ?_ _))).mono ?_; rintro e w5 ⟨A5, c5, rfl, hr5, hd5⟩; have tok2 := tk; have q0 := below_if hd5 W0.heap.size 0; have q1 := below_if hd5 W0.heap.size 1; have q2 := below_if hd5 W0.heap.size 2; have f0 := below_iff hd5 W0.heap.size 0; have f1 := below_iff hd5 W0.heap.size 1; have f2 := below_iff hd5 W0.heap.size 2; (try simp [World.size_alloc, World.size_drew, cell_newN, frozen_newN] at q0 q1 q2 f0 f1 f2); have hb5 : Below W0.heap.size W0 w5 := Below.trans (by repeat (first | exact Below.refl _ _ | assumption | refine Below.drew ?_ | refine balloc ?_ _)) (hd5.mono (Below.size (w := W0) (B := W0.heap.size) (by repeat (first | exact Below.refl _ _ | assumption | refine Below.drew ?_ | refine balloc ?_ _)))); have hl5 := Nat.lt_of_lt_of_le hlt hb5.size; clear z0 z1 z2; obtain ⟨z0, z1, z2, _⟩ := HBB.out _ hb5))
    all_goals
      have hx5 := Lib.hid hb5
      go_wp2_with fail
      go_meet
      first
        | exact ⟨w5.heap.size, A5, c5, rfl, cutA hr5 hlt1.out hx5.out.size, balloc hx5.out _⟩
        | exact ⟨W0.heap.size, A5, c5, rfl, cutB hd5 (Blk.new W0 25 _) hr5 hlt1.out, below_put' (below_put' (below_put' hx5.out (Nat.le_refl _) _ _) (Nat.le_refl _) _ _) (Nat.le_refl _) _ _⟩
  case rest =>
    obtain ⟨G, A5, c5, rfl, hc1, hbc⟩ := hcut
    obtain ⟨hG, hbG, hRN⟩ := hc1.out
    have HRN := Lib.hid hRN
    have HbG := Lib.hid hbG
    have Hbc := Lib.hid hbc
    have hGc : G < wc.heap.size := hbG.lt
    have HC := Lib.hid (HB0.out.below hbc hlt)
    clear hc1 hRN hbG hbc z0 z1 z2 za a1 a2 a3 a4 g1 g2 g3 g4 HBB c57 tok
    go_wp2_with fail
    go_loopw [4] (fun s4 wr => ∃ (k : Nat) (AIx : Option Addr) (cIx : Nat) (ps : List (Value × Value)), k ≤ b.its.length ∧ s4 = .int .i64 k ∧ Aside (ItC wc.heap.size (.slice AIx k cIx) wr ps b.its k) ∧ Aside (Only G wc wr) ∧ Aside (Blk wr G 25 #[.int .i64 b.p, .slice AIx k cIx, .slice A5 b.rus.length c5])) (fun s4 _ => b.its.length - (intOf s4).toNat)
    case atStart => exact ⟨0, none, 0, [], Nat.zero_le _, rfl, ⟨rfl, World.ownsRow_nil _ _ _ _, LstN.nil _ _, LstN.nil _ _, LoV.nil _, LoV.nil _⟩, Only.refl _ _, HbG.out⟩
    case round =>
      obtain ⟨k, AIx, cIx, ps, hk, rfl, hit, hon, hbl⟩ := hrel
      have HIt := Lib.hid hit.out
      have HOn := Lib.hid hon.out
      have HBl := Lib.hid hbl.out
      have hnG : w.heap.size < wc.heap.size ∧ w.heap.size ≠ G := ⟨by have := hG; omega, by omega⟩
      have HCr := Lib.hid (And.intro ((hon.out.cell (p := ⟨w.heap.size, 0, none⟩) hnG.1 hnG.2).trans (HC.out.cell 0)) (And.intro ((hon.out.cell (p := ⟨w.heap.size, 1, none⟩) hnG.1 hnG.2).trans (HC.out.cell 1)) ((hon.out.cell (p := ⟨w.heap.size, 2, none⟩) hnG.1 hnG.2).trans (HC.out.cell 2))))
      have hlow : Below w.heap.size w wr := (Hw.out.trans (Hbc.out.mono Hw.out.size)).trans (hon.out.below (by omega) (by omega))
      have hGr : G < wr.heap.size := hbl.out.lt
      have HNE := Lib.hid (own_ne hit.out.2.1 hGc)
      have hcr : wc.heap.size ≤ wr.heap.size := hon.out.size
      clear hit hon hbl
      by_cases hlt2 : k < b.its.length
      · obtain ⟨bb, off, A1, c1, A2, c2, rfl, hbB, e0, e1, i1, i2⟩ := H.out k hlt2
        obtain ⟨m1, m2⟩ := Hs3.out b.its[k] (List.getElem_mem hlt2)
        obtain ⟨x0, x1, x2⟩ := HCr.out
        obtain ⟨y0, y1, y2, f0, f1, f2⟩ := blk3 HBl.out
        have CellF := Lib.hid (fun W (hW : Below wr.heap.size wr W) => show W.cell? ⟨w.heap.size, 1, none⟩ = some (.slice (some ⟨bb, off, none⟩) b.its.length cI) ∧ W.cell? ⟨bb, off + k * 2, none⟩ = some (.slice A1 b.its[k].1.length c1) ∧ W.cell? ⟨bb, off + k * 2 + 1, none⟩ = some (.slice A2 b.its[k].2.length c2) ∧ W.cell? ⟨G, 1, none⟩ = some (.slice AIx k cIx) ∧ W.frozen? ⟨G, 1, none⟩ = false from
          ⟨(hW.cell (p := ⟨w.heap.size, 1, none⟩) (show w.heap.size < wr.heap.size by have := hnG.1; omega)).trans x1, (hW.cell (p := ⟨bb, off + k * 2, none⟩) (Nat.lt_of_lt_of_le hbB hlow.size)).trans ((hlow.cell (p := ⟨bb, off + k * 2, none⟩) hbB).trans e0), (hW.cell (p := ⟨bb, off + k * 2 + 1, none⟩) (Nat.lt_of_lt_of_le hbB hlow.size)).trans ((hlow.cell (p := ⟨bb, off + k * 2 + 1, none⟩) hbB).trans e1), (hW.cell (p := ⟨G, 1, none⟩) hGr).trans y1, (hW.frozen (p := ⟨G, 1, none⟩) hGr).trans f1⟩)
        have cc1 := Lib.hid (fun W (hW : Below wr.heap.size wr W) => CopyInts_ref A1 c1 w.heap.size b.its[k].1 W (Nat.le_trans hlow.size hW.size) (i1.below (hlow.trans (hW.mono hlow.size)) (Nat.le_refl _)) (by omega))
        have cc2 := Lib.hid (fun W (hW : Below wr.heap.size wr W) => CopyInts_ref A2 c2 w.heap.size b.its[k].2 W (Nat.le_trans hlow.size hW.size) (i2.below (hlow.trans (hW.mono hlow.size)) (Nat.le_refl _)) (by omega))
        have HSn := Lib.hid (fun n1 n2 c6 c7 W w8 A6 A7 A8 c8 (hn1 : n1 = b.its[k].1.length) (hn2 : n2 = b.its[k].2.length) hW => ItC.snoc (n1 := n1) (n2 := n2) (c6 := c6) (c7 := c7) (W := W) (w8 := w8) (A6 := A6) (A7 := A7) (A8 := A8) (c8 := c8) HIt.out hlt2 hn1 hn2 hW hcr)
        obtain ⟨n1, hn1⟩ : ∃ n1, n1 = b.its[k].1.length := ⟨_, rfl⟩
        obtain ⟨n2, hn2⟩ : ∃ n2, n2 = b.its[k].2.length := ⟨_, rfl⟩
        rw [← hn1] at cc1 CellF
        rw [← hn2] at cc2 CellF
        have Hn1 := Lib.hid hn1
        have Hn2 := Lib.hid hn2
        have k0 : (0 : Int) ≤ (k : Int) := by omega
        have k1 : (k : Int) < (b.its.length : Int) := by omega
        generalize b.its[k].1.map (Value.int .i64) = o1 at cc1 HSn
        generalize b.its[k].2.map (Value.int .i64) = o2 at cc2 HSn
        clear e0 e1 i1 i2 m1 m2 x0 x1 x2 y0 y1 y2 f0 f1 f2 hn1 hn2 H Hs3
        have Keep := Lib.hid (fun W (hW : Below (w.heap.size + 1) wr W) (hg : W.cell? ⟨G, 1, none⟩ = some (.slice AIx k cIx)) => show W.cell? ⟨w.heap.size, 1, none⟩ = some (.slice (some ⟨bb, off, none⟩) b.its.length cI) ∧ W.cell? ⟨bb, off + k * 2, none⟩ = some (.slice A1 n1 c1) ∧ W.cell? ⟨bb, off + k * 2 + 1, none⟩ = some (.slice A2 n2 c2) ∧ W.cell? ⟨G, 1, none⟩ = some (.slice AIx k cIx) ∧ Below (w.heap.size + 1) wr W from by
          obtain ⟨z1, z2, z3, _, _⟩ := CellF.out wr (Below.refl _ _)
          exact ⟨(hW.cell (p := ⟨w.heap.size, 1, none⟩) (Nat.lt_succ_self _)).trans z1, (hW.cell (p := ⟨bb, off + k * 2, none⟩) (Nat.lt_succ_of_lt hbB)).trans z2, (hW.cell (p := ⟨bb, off + k * 2 + 1, none⟩) (Nat.lt_succ_of_lt hbB)).trans z3, hg, hW⟩)
        have hle : w.heap.size + 1 ≤ wr.heap.size := by have := hnG.1; omega
        have hle2 : w.heap.size + 1 ≤ wc.heap.size := by have := hnG.1; omega
        have tok := Lib.hid (Nat.le_refl 0)
        have z1 := (CellF.out wr (Below.refl _ _)).1
        go_wp2_with fail
        clear z1
        have hS0 := Keep.out wr.drew (Below.mono (Below.refl wr.heap.size wr) hle).drew (CellF.out wr (Below.refl _ _)).2.2.2.1
        refine wp_region_E (S := fun W => W.cell? ⟨w.heap.size, 1, none⟩ = some (.slice (some ⟨bb, off, none⟩) b.its.length cI) ∧ W.cell? ⟨bb, off + k * 2, none⟩ = some (.slice A1 n1 c1) ∧ W.cell? ⟨bb, off + k * 2 + 1, none⟩ = some (.slice A2 n2 c2) ∧ W.cell? ⟨G, 1, none⟩ = some (.slice AIx k cIx) ∧ Below (w.heap.size + 1) wr W) (E := fun j => [20].contains j) (by kernel_rfl) ?_
        refine anyE_take [1, 18, 20] (i := 0) (v := ?_) rfl (by kernel_rfl) (by kernel_rfl) (by kernel_rfl) (by kernel_rfl) (fun _ _ _ h => h) (Or.inl ⟨by rfl, ?_⟩) hS0 ?_
        rotate_left
        · (intro w hSw; (try dsimp only at hSw); go_simp; try with_reducible rfl)
        try simp only [Act.put, List.setIfInBounds_toArray, List.set_cons_zero, List.set_cons_succ]
        refine anyE_take [18, 20] (i := 1) (v := ?_) rfl (by kernel_rfl) (by kernel_rfl) (by kernel_rfl) (by kernel_rfl) (fun _ _ _ h => h) (Or.inl ⟨by rfl, ?_⟩) hS0 ?_
        rotate_left
        · (intro w hSw; (try dsimp only at hSw); go_simp; try with_reducible rfl)
        try simp only [Act.put, List.setIfInBounds_toArray, List.set_cons_zero, List.set_cons_succ]
        refine anyE_take [3, 5, 6, 7, 8, 16, 17, 18, 20] (i := 2) (v := ?_) rfl (by kernel_rfl) (by kernel_rfl) (by kernel_rfl) (by kernel_rfl) (fun _ _ _ h => h) (Or.inl ⟨by rfl, ?_⟩) hS0 ?_
        rotate_left
        · (intro w hSw; (try dsimp only at hSw); go_simp; try with_reducible rfl)
        try simp only [Act.put, List.setIfInBounds_toArray, List.set_cons_zero, List.set_cons_succ]
        refine anyE_take [5, 6, 7, 8, 16, 17, 18, 20] (i := 3) (v := ?_) rfl (by kernel_rfl) (by kernel_rfl) (by kernel_rfl) (by kernel_rfl) (fun _ _ _ h => h) (Or.inl ⟨by rfl, ?_⟩) hS0 ?_
        rotate_left
        · (intro w hSw; (try dsimp only at hSw); go_simp; try with_reducible rfl)
        try simp only [Act.put, List.setIfInBounds_toArray, List.set_cons_zero, List.set_cons_succ]
        refine anyE_take [5, 6, 7, 8, 16, 17, 18, 20] (i := 4) (v := ?_) rfl (by kernel_rfl) (by kernel_rfl) (by kernel_rfl) (by kernel_rfl) (fun _ _ _ h => h) (Or.inl ⟨by rfl, ?_⟩) hS0 ?_
        rotate_left
        · (intro w hSw; (try dsimp only at hSw); go_simp; try with_reducible rfl)
        try simp only [Act.put, List.setIfInBounds_toArray, List.set_cons_zero, List.set_cons_succ]
        refine anyE_take [6, 7, 8, 16, 17, 18, 20] (i := 5) (v := ?_) rfl (by kernel_rfl) (by kernel_rfl) (by kernel_rfl) (by kernel_rfl) (fun _ _ _ h => h) (Or.inl ⟨by rfl, ?_⟩) hS0 ?_
        rotate_left
        · (intro w hSw; (try dsimp only at hSw); go_simp; try with_reducible rfl)
        try simp only [Act.put, List.setIfInBounds_toArray, List.set_cons_zero, List.set_cons_succ]
        refine anyE_take [7, 8, 16, 17, 18, 20] (i := 6) (v := ?_) rfl (by kernel_rfl) (by kernel_rfl) (by kernel_rfl) (by kernel_rfl) (fun _ _ _ h => h) (Or.inl ⟨by rfl, ?_⟩) hS0 ?_
        rotate_left
        · (intro w hSw; (try dsimp only at hSw); go_simp; try with_reducible rfl)
        try simp only [Act.put, List.setIfInBounds_toArray, List.set_cons_zero, List.set_cons_succ]
        refine anyE_take [8, 16, 17, 18, 20] (i := 7) (v := ?_) rfl (by kernel_rfl) (by kernel_rfl) (by kernel_rfl) (by kernel_rfl) (fun _ _ _ h => h) (Or.inl ⟨by rfl, ?_⟩) hS0 ?_
        rotate_left
        · (intro w hSw; (try dsimp only at hSw); go_simp; try with_reducible rfl)
        try simp only [Act.put, List.setIfInBounds_toArray, List.set_cons_zero, List.set_cons_succ]
        refine anyE_take [10, 12, 13, 14, 15, 16, 17, 18, 20] (i := 9) (v := ?_) rfl (by kernel_rfl) (by kernel_rfl) (by kernel_rfl) (by kernel_rfl) (fun _ _ _ h => h) (Or.inl ⟨by rfl, ?_⟩) hS0 ?_
        rotate_left
        · (intro w hSw; (try dsimp only at hSw); go_simp; try with_reducible rfl)
        try simp only [Act.put, List.setIfInBounds_toArray, List.set_cons_zero, List.set_cons_succ]
        refine anyE_take [12, 13, 14, 15, 16, 17, 18, 20] (i := 10) (v := ?_) rfl (by kernel_rfl) (by kernel_rfl) (by kernel_rfl) (by kernel_rfl) (fun _ _ _ h => h) (Or.inl ⟨by rfl, ?_⟩) hS0 ?_
        rotate_left
        · (intro w hSw; (try dsimp only at hSw); go_simp; try with_reducible rfl)
        try simp only [Act.put, List.setIfInBounds_toArray, List.set_cons_zero, List.set_cons_succ]
        refine anyE_take [12, 13, 14, 15, 16, 17, 18, 20] (i := 11) (v := ?_) rfl (by kernel_rfl) (by kernel_rfl) (by kernel_rfl) (by kernel_rfl) (fun _ _ _ h => h) (Or.inl ⟨by rfl, ?_⟩) hS0 ?_
        rotate_left
        · (intro w hSw; (try dsimp only at hSw); go_simp; try with_reducible rfl)
        try simp only [Act.put, List.setIfInBounds_toArray, List.set_cons_zero, List.set_cons_succ]
        refine anyE_take [13, 14, 15, 16, 17, 18, 20] (i := 12) (v := ?_) rfl (by kernel_rfl) (by kernel_rfl) (by kernel_rfl) (by kernel_rfl) (fun _ _ _ h => h) (Or.inl ⟨by rfl, ?_⟩) hS0 ?_
        rotate_left
        · (intro w hSw; (try dsimp only at hSw); go_simp; try with_reducible rfl)
        try simp only [Act.put, List.setIfInBounds_toArray, List.set_cons_zero, List.set_cons_succ]
        refine anyE_take [14, 15, 16, 17, 18, 20] (i := 13) (v := ?_) rfl (by kernel_rfl) (by kernel_rfl) (by kernel_rfl) (by kernel_rfl) (fun _ _ _ h => h) (Or.inl ⟨by rfl, ?_⟩) hS0 ?_
        rotate_left
        · (intro w hSw; (try dsimp only at hSw); go_simp; try with_reducible rfl)
        try simp only [Act.put, List.setIfInBounds_toArray, List.set_cons_zero, List.set_cons_succ]
        refine anyE_take [15, 16, 17, 18, 20] (i := 14) (v := ?_) rfl (by kernel_rfl) (by kernel_rfl) (by kernel_rfl) (by kernel_rfl) (fun _ _ _ h => h) (Or.inl ⟨by rfl, ?_⟩) hS0 ?_
        rotate_left
        · (intro w hSw; (try dsimp only at hSw); go_simp; try with_reducible rfl)
        try simp only [Act.put, List.setIfInBounds_toArray, List.set_cons_zero, List.set_cons_succ]
        refine anyE_one (i := 8) (by kernel_rfl) rfl (fun K hK => ?_)
        go_simp
        refine (cc1.out _ (by repeat (first | exact Below.refl _ _ | assumption | refine Below.drew ?_ | refine balloc ?_ _))).mono ?_
        rintro e w5 ⟨A6, c6, rfl, hown6, hd6⟩
        have hb6 : Below wr.heap.size wr w5 := Below.trans (by repeat (first | exact Below.refl _ _ | assumption | refine Below.drew ?_ | refine balloc ?_ _)) (hd6.mono (Below.size (w := wr) (B := wr.heap.size) (by repeat (first | exact Below.refl _ _ | assumption | refine Below.drew ?_ | refine balloc ?_ _))))
        have ho6 := own_base hown6 (Below.size (w := wr) (B := wr.heap.size) (by repeat (first | exact Below.refl _ _ | assumption | refine Below.drew ?_ | refine balloc ?_ _)))
        clear hown6
        go_wp2_with fail
        refine hK.out _ _ (fun _ => Keep.out _ (Below.mono hb6 hle) (CellF.out _ hb6).2.2.2.1) ?_
        clear hK K
        try simp only [Act.put, List.setIfInBounds_toArray, List.set_cons_zero, List.set_cons_succ]
        refine anyE_one (i := 15) (by kernel_rfl) rfl (fun K hK => ?_)
        go_simp
        refine (cc2.out _ (by repeat (first | exact Below.refl _ _ | assumption | refine Below.drew ?_ | refine balloc ?_ _))).mono ?_
        rintro e w6 ⟨A7, c7, rfl, hown7, hd7⟩
        have hb7 : Below wr.heap.size wr w6 := Below.trans (by repeat (first | exact Below.refl _ _ | assumption | refine Below.drew ?_ | refine balloc ?_ _)) (hd7.mono (Below.size (w := wr) (B := wr.heap.size) (by repeat (first | exact Below.refl _ _ | assumption | refine Below.drew ?_ | refine balloc ?_ _))))
        have ho7 := own_base hown7 (Below.size (w := wr) (B := wr.heap.size) (by repeat (first | exact Below.refl _ _ | assumption | refine Below.drew ?_ | refine balloc ?_ _)))
        have ho6b := own_below (by repeat (first | exact ho6 | refine World.ownsRow.drew ?_)) hd7
        clear hown7 ho6
        go_wp2_with fail
        have hS2 := Keep.out _ (Below.mono hb7 hle) (CellF.out _ hb7).2.2.2.1
        refine hK.out _ _ (fun _ => hS2) ?_
        clear hK K
        try simp only [Act.put, List.setIfInBounds_toArray, List.set_cons_zero, List.set_cons_succ]
        refine anyE_take [17, 18, 20] (i := 16) (v := ?_) rfl (by kernel_rfl) (by kernel_rfl) (by kernel_rfl) (by kernel_rfl) (fun _ _ _ h => h) (Or.inl ⟨by rfl, ?_⟩) hS2 ?_
        rotate_left
        · (intro w hSw; (try dsimp only at hSw); go_simp; try with_reducible rfl)
        try simp only [Act.put, List.setIfInBounds_toArray, List.set_cons_zero, List.set_cons_succ]
        refine anyE_one (i := 17) (by kernel_rfl) rfl (fun K hK => ?_)
        go_simp
        refine hK.out _ _ (fun _ => Keep.out _ (Below.mono (by repeat (first | exact Below.refl _ _ | assumption | refine Below.drew ?_ | refine balloc ?_ _)) hle) (CellF.out _ (by repeat (first | exact Below.refl _ _ | assumption | refine Below.drew ?_ | refine balloc ?_ _))).2.2.2.1) ?_
        clear hK K
        try simp only [Act.put, List.setIfInBounds_toArray, List.set_cons_zero, List.set_cons_succ]
        refine anyE_one (i := 18) (by kernel_rfl) rfl (fun K hK => ?_)
        refine step_app2 _ (by rfl) (.tmp 19) (.tmp 35) 22 (by rfl) wc.heap.size 84 j0 _ 2 48 Tryd.underlying22 hj hy0 hy1 hy2 (by rfl) (by decide) (.slice AIx k cIx) k (flatV ps) (by rfl)
          (own_below HIt.out.2.1 (by repeat (first | exact Below.refl _ _ | assumption | refine Below.drew ?_ | refine balloc ?_ _)))
          ⟨_, 0, none⟩ 1 1 [.slice A6 n1 c6, .slice A7 n2 c7] (by rfl) (by rfl)
          (news_blk (t := 84) (cs := #[.slice A6 n1 c6, .slice A7 n2 c7]) (by repeat (first | with_reducible exact blk_new' (by simp) | with_reducible refine Blk.drew ?_ | with_reducible refine Blk.alloc ?_ _)) _ rfl)
          (by simp [Value.oneCell']) (by omega) (by decide) (Nat.le_trans hcr (Below.size (w := wr) (B := wr.heap.size) (by repeat (first | exact Below.refl _ _ | assumption | refine Below.drew ?_ | refine balloc ?_ _)))) (k + 1) (by omega) (flatV (ps ++ [(.slice A6 n1 c6, .slice A7 n2 c7)])) (flatV_snoc _ _ _).symm ?_
        intro A8 c8 w8 hown8 hg8 hlow8 hat8
        have HB8 := Blk.grown (HBl.out.below (by repeat (first | exact Below.refl _ _ | assumption | refine Below.drew ?_ | refine balloc ?_ _)) hGr) hg8 HNE.out
        have q8 := HB8.cell 1
        have q9 := HB8.frozen 1
        have hb8 : Below (w.heap.size + 1) wr w8 := (Below.mono (by repeat (first | exact Below.refl _ _ | assumption | refine Below.drew ?_ | refine balloc ?_ _)) hle).grown hg8 (Nat.le_trans hle (Below.size (w := wr) (B := wr.heap.size) (by repeat (first | exact Below.refl _ _ | assumption | refine Below.drew ?_ | refine balloc ?_ _)))) (fun j hj => Nat.le_trans hle2 (hlow8 j hj))
        have hbw : Below wc.heap.size wr w8 := (Below.mono (by repeat (first | exact Below.refl _ _ | assumption | refine Below.drew ?_ | refine balloc ?_ _)) hcr).grown hg8 (Nat.le_trans hcr (Below.size (w := wr) (B := wr.heap.size) (by repeat (first | exact Below.refl _ _ | assumption | refine Below.drew ?_ | refine balloc ?_ _)))) (fun j hj => hlow8 j hj)
        have hO8 : Only G wc w8 := ⟨hbw.os.trans HOn.out.os, hbw.tape.trans HOn.out.tape, hbw.output.trans HOn.out.output, Nat.le_trans HOn.out.size hbw.size, fun i hi hne => (hbw.block i hi).trans (HOn.out.block i hi hne)⟩
        have hI8 := Lib.hid (HSn.out n1 n2 c6 c7 _ w8 A6 A7 A8 c8 Hn1.out Hn2.out (by repeat (first | exact Below.refl _ _ | assumption | refine Below.drew ?_ | refine balloc ?_ _)) (by repeat (first | exact ho6b | refine World.ownsRow.drew ?_ | refine World.ownsRow.alloc ?_ _)) (by repeat (first | exact ho7 | refine World.ownsRow.drew ?_ | refine World.ownsRow.alloc ?_ _)) hown8 hg8 hat8)
        clear hown8
        have hS3 := Keep.out _ hb8 q8
        refine hK.out _ _ (fun _ => hS3) ?_
        clear hK K
        try simp only [Act.put, List.setIfInBounds_toArray, List.set_cons_zero, List.set_cons_succ]
        refine anyE_take [20] (i := 19) (v := ?_) rfl (by kernel_rfl) (by kernel_rfl) (by kernel_rfl) (by kernel_rfl) (fun _ _ _ h => h) (Or.inl ⟨by rfl, ?_⟩) hS3 ?_
        rotate_left
        · (intro w hSw; (try dsimp only at hSw); go_simp; try with_reducible rfl)
        try simp only [Act.put, List.setIfInBounds_toArray, List.set_cons_zero, List.set_cons_succ]
        refine anyE_one (i := 20) (by kernel_rfl) rfl (fun K hK => ?_)
        go_simp
        refine hK.out _ _ (fun h => absurd h (by decide)) ?_
        clear hK K
        refine anyE_done (by kernel_rfl) ?_ _
        try simp only [Act.put, List.setIfInBounds_toArray, List.set_cons_zero, List.set_cons_succ]
        have HI9 := Lib.hid (hI8.out.put hGc 1 (.slice A8 (k + 1) c8))
        have HO9 := Lib.hid (hO8.put 1 (.slice A8 (k + 1) c8))
        have HB9 := Lib.hid (HB8.put 1 (.slice A8 (k + 1) c8))
        go_wp2_with fail
        go_roundw
        case rel => exact ⟨k + 1, A8, c8, _, by omega, by go_num, HI9.out, HO9.out, HB9.out⟩
        case measure => simp [intOf]; omega
      · obtain rfl : k = b.its.length := by omega
        obtain ⟨y0, y1, y2, f0, f1, f2⟩ := blk3 HBl.out
        obtain ⟨x0, x1, x2⟩ := HCr.out
        have hn1 : w.heap.size + 1 < wc.heap.size := by omega
        have HR1 := Lib.hid (show Blk wr (w.heap.size + 1) 25 #[.int .i64 0, .slice none 0 0, .slice none 0 0] from ((HOn.out.block (w.heap.size + 1) hn1 (fun e => by injection e with e; omega))).trans (HB1.out.below Hbc.out HB1.out.lt))
        obtain ⟨t0, t1, t2, g0, g1, g2⟩ := blk3 HR1.out
        go_wp2_with fail
        have hn2 : w.heap.size + 1 < wr.heap.size := HR1.out.lt
        have HP := Lib.hid (fun u0 u1 u2 => (((Only.refl (w.heap.size + 1) wr).put 0 u0).put 1 u1).put 2 u2)
        have HI := Lib.hid ((((HIt.out.put hn1 0 (.int .i64 b.p)).put hn1 1 (.slice AIx b.its.length cIx)).put hn1 2 (.slice A5 b.rus.length c5)).at)
        have HR := Lib.hid (((HRN.out.keep (fun _ h => h.1) HOn.out).keep (fun _ h => h.2) (HP.out (.int .i64 b.p) (.slice AIx b.its.length cIx) (.slice A5 b.rus.length c5))).at)
        have HB2 := Lib.hid (((HR1.out.put 0 (.int .i64 b.p)).put 1 (.slice AIx b.its.length cIx)).put 2 (.slice A5 b.rus.length c5))
        have HD := Lib.hid (below_put' (below_put' (below_put' hlow (Nat.le_succ w.heap.size) 0 (.int .i64 b.p)) (Nat.le_succ w.heap.size) 1 (.slice AIx b.its.length cIx)) (Nat.le_succ w.heap.size) 2 (.slice A5 b.rus.length c5))
        refine bodyPost_ret (results_cell_row rfl _ _ (w.heap.size + 1) 25 _ (0, 0) _ rfl HB2.out Tryd.underlying25 rfl (by kernel_rfl)) rfl ⟨AIx, A5, cIx, c5, rfl, HI.out, HR.out, HD.out⟩
end Go.Proofs.YtgoojcjfhghmgaaDoor
