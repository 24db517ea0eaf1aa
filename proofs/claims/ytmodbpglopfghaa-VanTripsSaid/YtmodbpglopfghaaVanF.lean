/- Trees that grow; rows that numbers are deleted from. -/
import Derived.Test.YtmodbpglopfghaaVanE
import Derived.Test.YtmodbpglopfghaaTree
import Derived.Test.YtmodbpglopfghaaShelf
set_option linter.unusedSimpArgs false
namespace Go.Proofs.Ytmodbpglopfghaa
open Go.RowKit

def intL (l : List Nat) : List Int := l.map fun x : Nat => (x : Int)
theorem intL_length (l : List Nat) : (intL l).length = l.length := by simp [intL]
theorem intL_get {l : List Nat} {i : Nat} (h : i < l.length) : (intL l)[i]'(by rw [intL_length]; exact h) = ((l[i] : Nat) : Int) := by simp [intL]
/-- A row of a call's own that holds some numbers. -/
def IR (g : Nat) (zs : List Int) (w : World) : Prop := g < w.heap.size ∧ ∀ i (h : i < zs.length), w.cell? ⟨g, i, none⟩ = some (.int .i64 zs[i]) ∧ w.frozen? ⟨g, i, none⟩ = false
theorem frozen_block {w w' : World} {g i : Nat} (h : w'.heap[g]? = w.heap[g]?) : w'.frozen? ⟨g, i, none⟩ = w.frozen? ⟨g, i, none⟩ := by
  unfold World.frozen?
  rw [h]
theorem IR.kept {g : Nat} {row : Option Nat} {zs : List Int} {w w' : World} (h : IR g zs w) (hg : w.grownBy w' row) (hne : some g ≠ row) : IR g zs w' := by
  have hb := hg.block g h.1 hne
  refine ⟨Nat.lt_of_lt_of_le h.1 hg.size, fun i hi => ⟨?_, ?_⟩⟩
  · exact (World.cell?_of_block (a := ⟨g, i, none⟩) hb).trans (h.2 i hi).1
  · exact (frozen_block hb).trans (h.2 i hi).2
theorem IR.of_own {w : World} {base n c : Nat} {A : Option Addr} {zs : List Int} (h : w.ownsRow base 3 1 (.slice A n c) n (zs.map (Value.int .i64))) (hn : zs.length = n) (hA : ¬ (.slice A n c : Value) = .slice none 0 0) : ∃ g, A = some ⟨g, 0, none⟩ ∧ base ≤ g ∧ n ≤ c ∧ c ≤ maxLen ∧ IR g zs w := by
  rcases h.2 with ⟨h1, _⟩ | ⟨g, cap, cur, h1, h2, h3, h4, h5, h6, h7⟩
  · exact absurd h1 hA
  · injection h1 with h1 _ h8
    subst h1 h8
    refine ⟨g, rfl, h2, h4, h5, ?_, fun i hi => ⟨?_, ?_⟩⟩
    · exact (Array.getElem?_eq_some_iff.1 h3).1
    · have hb : Blk w g 3 cur := h3
      rw [hb.cell]
      have h8 : (cur.toList.take (n * 1))[i]? = some (.int .i64 zs[i]) := by rw [h7]; simp [hi]
      rw [List.getElem?_take_of_lt (by omega)] at h8
      simpa using h8
    · have hb : Blk w g 3 cur := h3
      exact hb.frozen i
theorem only_setCells (g : Nat) : ∀ (vs : List Value) (o : Nat) (w : World), Only g w (w.setCells g o vs)
  | [], _, w => Only.refl g w
  | v :: r, o, w => ((Only.refl g w).put o v).trans (only_setCells g r (o + 1) _)
theorem erase_list (zs : List Int) (i : Nat) : (zs.take zs.length).take i ++ (zs.take zs.length).drop (i + 1) ++ List.replicate (i + 1 - i) 0 = zs.eraseIdx i ++ [0] := by
  rw [List.take_length, List.eraseIdx_eq_take_drop_succ]
  have : i + 1 - i = 1 := by omega
  rw [this]; rfl
theorem Delete_any (g cap i : Nat) (zs : List Int) (w : World) (h : IR g zs w) (hc : zs.length ≤ cap) (hm : cap ≤ maxLen) (hi : i < zs.length) :
    Calls Try.prog 85 #[.slice (some ⟨g, 0, none⟩) zs.length cap, .int .i64 (i : Int), .int .i64 ((i + 1 : Nat) : Int)] w fun e w' => e = .returned (.slice (some ⟨g, 0, none⟩) (zs.length - 1) cap) ∧ IR g (zs.eraseIdx i) w' ∧ Only g w w' := by
  refine (Try.slices_Delete_int_cells g 0 zs.length cap i (i + 1) zs w (Nat.le_refl _) hc hm (by omega) (by omega) (fun j hj => by rw [Nat.zero_add, (h.2 j hj).1]; simp [hj]) (fun j hj => by rw [Nat.zero_add]; exact (h.2 j hj).2)).mono ?_
  rintro e w' ⟨rfl, q, rfl⟩
  rw [erase_list zs i]
  have hlen : (zs.eraseIdx i).length = zs.length - 1 := List.length_eraseIdx_of_lt hi
  have ho : Only g w ((w.drewN q).setCells g 0 ((zs.eraseIdx i ++ [0]).map (Value.int .i64))) := ((Only.refl g w).drewN q).trans (only_setCells g _ 0 _)
  refine ⟨by rw [show i + 1 - i = 1 by omega], ⟨Nat.lt_of_lt_of_le h.1 ho.size, fun j hj => ?_⟩, ho⟩
  have hj' : j < ((zs.eraseIdx i ++ [0]).map (Value.int .i64)).length := by simp; omega
  have hin := World.cell?_setCells_in g ((zs.eraseIdx i ++ [0]).map (Value.int .i64)) 0 (w.drewN q) (fun k hk => by
    rw [List.length_map, List.length_append, List.length_singleton, hlen] at hk
    rw [Nat.zero_add]
    show (w.cell? ⟨g, k, none⟩).isSome = true
    rw [(h.2 k (by omega)).1]; rfl) j hj'
  rw [Nat.zero_add] at hin
  refine ⟨?_, ?_⟩
  · rw [hin, List.getElem_map, List.getElem_append_left hj]
  · rw [World.frozen?_setCells]
    exact (h.2 j (by omega)).2

/-- A growth so far. -/
def Gw (f : Nat → Nat → Int) (V : Nat → Prop) (r : Nat) (I : List Nat) (S : Int) : Prop := ∀ es', Greedy f V (fun x => x ∈ I) es' → (∀ e ∈ es', V e.1 ∧ V e.2) → ∃ es, Greedy f V (fun x => x = r) es ∧ cost f es = S + cost f es' ∧ es.length + 1 = I.length + es'.length ∧ ∀ e ∈ es, V e.1 ∧ V e.2
theorem Gw.start (f : Nat → Nat → Int) (V : Nat → Prop) (r : Nat) : Gw f V r [r] 0 := fun es' h hb => by
  have e : (fun x => x ∈ [r]) = fun x => x = r := by funext x; simp
  rw [e] at h
  exact ⟨es', h, by omega, by simp; omega, hb⟩
theorem cost_cons (f : Nat → Nat → Int) (e : Ed) (es : List Ed) : cost f (e :: es) = f e.1 e.2 + cost f es := by simp [cost]
theorem Gw.step {f : Nat → Nat → Int} {V : Nat → Prop} {r s t : Nat} {I : List Nat} {S : Int} (h : Gw f V r I S) (hs : s ∈ I) (hVs : V s) (hVt : V t) (ht : t ∉ I) (hm : ∀ i k, i ∈ I → V k → k ∉ I → f s t ≤ f i k) : Gw f V r (I ++ [t]) (S + f s t) := fun es' hg hb => by
  have e : (fun x => x ∈ I ++ [t]) = fun x => x ∈ I ∨ x = t := by funext x; simp
  rw [e] at hg
  obtain ⟨es, h1, h2, h3, h4⟩ := h ((s, t) :: es') ⟨hs, hVt, ht, hm, hg⟩ (fun x hx => by
    rcases List.mem_cons.1 hx with rfl | hx
    · exact ⟨hVs, hVt⟩
    · exact hb x hx)
  refine ⟨es, h1, ?_, ?_, h4⟩
  · rw [h2, cost_cons]; simp only; omega
  · rw [h3, List.length_cons, List.length_append, List.length_singleton]; omega
/-- S is the length of a greedy tree of N places. -/
def IsTree (f : Nat → Nat → Int) (V : Nat → Prop) (N : Nat) (S : Int) : Prop := ∃ r es, V r ∧ Greedy f V (fun x => x = r) es ∧ cost f es = S ∧ es.length + 1 = N ∧ ∀ e ∈ es, V e.1 ∧ V e.2
theorem Gw.done {f : Nat → Nat → Int} {V : Nat → Prop} {r : Nat} {I : List Nat} {S : Int} (h : Gw f V r I S) (hr : V r) (hI : ∀ x, V x → x ∈ I) : IsTree f V I.length S := by
  obtain ⟨es, h1, h2, h3, h4⟩ := h [] hI (fun e he => by simp at he)
  exact ⟨r, es, hr, h1, by rw [h2]; simp [cost], by rw [h3]; simp, h4⟩
theorem Greedy.spans {f : Nat → Nat → Int} {V : Nat → Prop} : ∀ (es : List Ed) (I : Nat → Prop), Greedy f V I es → Spans V I es
  | [], _, h => h
  | _ :: es, _, h => ⟨h.1, h.2.1, Greedy.spans es _ h.2.2.2.2⟩
theorem Greedy.congr {f g : Nat → Nat → Int} {V : Nat → Prop} (hfg : ∀ i k, V i → V k → f i k = g i k) : ∀ (es : List Ed) (I : Nat → Prop), (∀ x, I x → V x) → Greedy f V I es → Greedy g V I es
  | [], _, _, h => h
  | e :: es, I, hI, h => by
    obtain ⟨h1, h2, h3, h4, h5⟩ := h
    refine ⟨h1, h2, h3, fun i k hi hk hn => ?_, Greedy.congr hfg es _ (fun x hx => hx.elim (hI x) fun e => e ▸ h2) h5⟩
    rw [← hfg _ _ (hI _ h1) h2, ← hfg _ _ (hI i hi) hk]
    exact h4 i k hi hk hn
theorem cost_congr {f g : Nat → Nat → Int} {V : Nat → Prop} (hfg : ∀ i k, V i → V k → f i k = g i k) : ∀ (es : List Ed), (∀ e ∈ es, V e.1 ∧ V e.2) → cost f es = cost g es
  | [], _ => rfl
  | e :: es, h => by
    obtain ⟨h1, h2⟩ := h e (by simp)
    rw [cost_cons, cost_cons, hfg _ _ h1 h2, cost_congr hfg es fun x hx => h x (by simp [hx])]
/-- A greedy tree is no longer than what connects all places. -/
theorem IsTree.le {f : Nat → Nat → Int} {V : Nat → Prop} {N : Nat} {S lo : Int} {d : Nat} (h : IsTree f V N S) (hs : ∀ i k, V i → V k → f i k = f k i) (hb : ∀ i k, V i → V k → lo ≤ f i k ∧ f i k ≤ lo + d) {r' : Nat} {es' : List Ed} (hr' : V r') (hS : Spans V (fun x => x = r') es') (hl : es'.length + 1 = N) (hes : ∀ e ∈ es', V e.1 ∧ V e.2) : S ≤ cost f es' := by
  obtain ⟨r, es, hr, hg, rfl, hlen, hev⟩ := h
  have hfg : ∀ i k, V i → V k → f i k = (fun i k => f (min i k) (max i k)) i k := fun i k hi hk => by
    rcases Nat.le_total i k with h | h
    · simp only [Nat.min_eq_left h, Nat.max_eq_right h]
    · simp only [Nat.min_eq_right h, Nat.max_eq_left h]; exact hs i k hi hk
  rw [cost_congr hfg es hev, cost_congr hfg es' hes]
  refine greedy_le (fun i k => by simp only [Nat.min_comm, Nat.max_comm]) (hg.congr hfg es _ (fun x hx => hx ▸ hr)) hS hr hr' (by omega) (lo := lo) (n := d) (fun e he => ?_) (fun e he => ?_)
  · obtain ⟨h1, h2⟩ := hev e he
    have := hfg _ _ h1 h2
    simp only at this
    simp only [← this]; exact hb _ _ h1 h2
  · obtain ⟨h1, h2⟩ := hes e he
    have := hfg _ _ h1 h2
    simp only at this
    simp only [← this]; exact hb _ _ h1 h2
theorem IsTree.unique {f : Nat → Nat → Int} {V : Nat → Prop} {N : Nat} {S S' lo : Int} {d : Nat} (h : IsTree f V N S) (h' : IsTree f V N S') (hs : ∀ i k, V i → V k → f i k = f k i) (hb : ∀ i k, V i → V k → lo ≤ f i k ∧ f i k ≤ lo + d) : S = S' := by
  have h1 := h
  have h2 := h'
  obtain ⟨r, es, hr, hg, hc, hlen, hev⟩ := h
  obtain ⟨r', es', hr', hg', hc', hlen', hev'⟩ := h'
  have := h1.le hs hb hr' (Greedy.spans _ _ hg') hlen' hev'
  have := h2.le hs hb hr (Greedy.spans _ _ hg) hlen hev
  omega
/-- The ways of a tour, but the last one. -/
def pathE : Nat → List Nat → List Ed
  | _, [] => []
  | a, s :: r => (a, s) :: pathE s r
theorem pathE_length : ∀ (t : List Nat) (a : Nat), (pathE a t).length = t.length
  | [], _ => rfl
  | s :: r, a => by simp [pathE, pathE_length r s]
theorem pathE_mem {V : Nat → Prop} : ∀ (t : List Nat) (a : Nat), V a → (∀ x ∈ t, V x) → ∀ e ∈ pathE a t, V e.1 ∧ V e.2
  | [], _, _, _ => fun e he => by simp [pathE] at he
  | s :: r, a, ha, h => fun e he => by
    rcases List.mem_cons.1 he with rfl | he
    · exact ⟨ha, h s (by simp)⟩
    · exact pathE_mem r s (h s (by simp)) (fun x hx => h x (by simp [hx])) e he
theorem pathE_spans {V : Nat → Prop} : ∀ (t : List Nat) (a : Nat) (I : Nat → Prop), I a → (∀ x ∈ t, V x) → (∀ x, V x → I x ∨ x ∈ t) → Spans V I (pathE a t)
  | [], _, _, _, _, h => fun x hx => (h x hx).resolve_right (by simp)
  | s :: r, a, I, ha, hV, h => by
    refine ⟨ha, hV s (by simp), pathE_spans r s _ (.inr rfl) (fun x hx => hV x (by simp [hx])) fun x hx => ?_⟩
    rcases h x hx with h1 | h1
    · exact .inl (.inl h1)
    · rcases List.mem_cons.1 h1 with h1 | h1
      · exact .inl (.inr h1)
      · exact .inr h1
theorem pathE_cost (f : Nat → Nat → Int) : ∀ (t : List Nat) (a : Nat), lenF f a t = cost f (pathE a t) + f (t.getLast?.getD a) 0
  | [], a => by simp [lenF, pathE, cost]
  | s :: r, a => by
    show f a s + lenF f s r = cost f ((a, s) :: pathE s r) + _
    rw [pathE_cost f r s, cost_cons]
    have : (s :: r).getLast?.getD a = r.getLast?.getD s := by
      cases r with
      | nil => rfl
      | cons x r => simp [List.getLast?_cons_cons, List.getLast?_eq_some_getLast]
    rw [this]
    simp only
    omega
end Go.Proofs.Ytmodbpglopfghaa
