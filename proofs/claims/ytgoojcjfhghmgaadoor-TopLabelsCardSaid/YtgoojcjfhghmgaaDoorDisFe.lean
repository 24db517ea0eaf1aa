/- A region that draws its order: what holds till the last operations come up. -/
import Derived.Test.YtgoojcjfhghmgaaDoorDisFa
import Derived.OrdersHeld
namespace Go.Proofs.YtgoojcjfhghmgaaDoor
open Go Go.RowKit
section
variable {P : Program} {md : Region.Mode} {ops : Array Oper} {Q : Exit → Act → World → Prop} {S : World → Prop} {E : Nat → Bool}

/-- Whichever order: S holds behind each operation that is not exempt. -/
def anyE (P : Program) (md : Region.Mode) (ops : Array Oper) (Q : Exit → Act → World → Prop) (S : World → Prop) (E : Nat → Bool) : Nat → Array Bool → Act → World → Prop
  | 0, listed, a, w => Region.ready md ops listed = [] ∧ Q .normal a w
  | n + 1, listed, a, w => (Region.ready md ops listed = [] → Q .normal a w) ∧
      ∀ i ∈ Region.ready md ops listed, wpOp P ops Q i (fun a' w' => (E i = false → S w') ∧ anyE P md ops Q S E n (listed.setIfInBounds i true) a' w') a w
theorem any_of_E : ∀ (n : Nat) (listed : Array Bool) (a : Act) (w : World), anyE P md ops Q S E n listed a w → wpAny P md ops Q n listed a w
  | 0, _, _, _, h => h
  | n + 1, _, _, _, h => ⟨h.1, fun i hi => wpOp_mono (fun a' w' h' => any_of_E n _ a' w' h'.2) (h.2 i hi)⟩
/-- An operation that yields the same wherever S holds may be taken first, if the exempt ones wait for it. -/
theorem anyE_first {i : Nat} {oi : Oper} {v : Value} (hi : ops[i]? = some oi) (hsel : ∀ (j : Nat) (o : Oper) cs b, ops[j]? = some o → o.op ≠ .select cs b)
    (hQ : ∀ c a w, Q (.panic c) (a.put oi.dst v) w → Q (.panic c) a w)
    {N : List Nat} (hE : ∀ j, E j = true → j ∈ N) (hN : ∀ j ∈ N, ∀ oj, ops[j]? = some oj → ∃ e ∈ oj.after, Region.binds md e = true ∧ (e.on = i ∨ e.on ∈ N)) :
    ∀ (n : Nat) (listed : Array Bool) (a : Act) (w : World),
      (∀ j oj, ops[j]? = some oj → j ≠ i → listed.getD j true = false → (∀ e ∈ oj.after, Region.binds md e = true → e.on ≠ i) → oi.apart ops oj = true) →
      i ∈ Region.ready md ops listed → (∀ k ∈ N, listed.getD k true = false) → YieldsIf P ops S oi v a → S w →
      anyE P md ops Q S E n (listed.setIfInBounds i true) (a.put oi.dst v) w → anyE P md ops Q S E (n + 1) listed a w
  | 0, listed, a, w, _, hr, _, hy, hS, H => by
    refine ⟨fun h => (by rw [h] at hr; cases hr), fun j hj => ?_⟩
    by_cases hji : j = i
    · subst hji; exact hy.wpOp hi hS ⟨fun _ => hS, H⟩
    · have := ready_mono hj hji
      rw [H.1] at this
      cases this
  | n + 1, listed, a, w, hfree, hr, hL, hy, hS, H => by
    refine ⟨fun h => (by rw [h] at hr; cases hr), fun j hj => ?_⟩
    by_cases hji : j = i
    · subst hji; exact hy.wpOp hi hS ⟨fun _ => hS, H⟩
    · have h1 := H.2 j (ready_mono hj hji)
      obtain ⟨hjun, oj, hoj, hall⟩ := mem_ready.1 hj
      have hnot : ∀ e ∈ oj.after, Region.binds md e = true → e.on ≠ i := fun e he hb heq => by
        have h1 := hall e he hb
        have h0 := (mem_ready.1 hr).1
        rw [heq] at h1
        rcases Nat.lt_or_ge i listed.size with h' | h'
        · simp [h'] at h0 h1; rw [h0] at h1; cases h1
        · simp [Array.getElem?_eq_none h'] at h1
      have hjN : j ∉ N := fun hjn => by
        obtain ⟨e, he, hb, hon | hon⟩ := hN j hjn oj hoj
        · exact hnot e he hb hon
        · have h1 := hall e he hb
          have h0 := hL _ hon
          rcases Nat.lt_or_ge e.on listed.size with h' | h'
          · simp [h'] at h0 h1; rw [h0] at h1; cases h1
          · simp [Array.getElem?_eq_none h'] at h1
      have hEj : E j = false := by
        cases hb : E j with
        | false => rfl
        | true => exact absurd (hE j hb) hjN
      have hL' : ∀ k ∈ N, (listed.setIfInBounds j true).getD k true = false := fun k hk => by
        have hne : j ≠ k := fun e => hjN (by rw [e]; exact hk)
        rw [getD_set_ne true hne]; exact hL k hk
      have h2 := wpOp_putIf hoj (hfree j oj hoj hji hjun hnot) (fun cs b => hsel i oi cs b hi) (fun cs b => hsel j oj cs b hoj) hQ hy h1
      have hfree' : ∀ k ok, ops[k]? = some ok → k ≠ i → (listed.setIfInBounds j true).getD k true = false →
          (∀ e ∈ ok.after, Region.binds md e = true → e.on ≠ i) → oi.apart ops ok = true := fun k ok hk hki hun hno => by
        refine hfree k ok hk hki ?_ hno
        by_cases hjk : j = k
        · subst hjk; exact hjun
        · rw [getD_set_ne true hjk] at hun; exact hun
      refine wpOp_mono (fun a' w' h3 => ⟨h3.2.1, anyE_first hi hsel hQ hE hN n (listed.setIfInBounds j true) a' w' hfree' (ready_mono hr (Ne.symm hji)) hL' h3.1 (h3.2.1 hEj) ?_⟩) h2
      rw [Array.setIfInBounds_comm _ _ hji]
      exact h3.2.2
/-- The operations of N wait for number i or for one another, none is listed, and the exempt ones are among them. -/
def waitsE (md : Region.Mode) (ops : Array Oper) (listed : Array Bool) (xs N : List Nat) (i : Nat) : Bool :=
  (xs.all fun j => N.contains j) && (N.all fun j => !listed.getD j true && match ops[j]? with
    | some o => o.after.any fun e => Region.binds md e && (e.on == i || N.contains e.on)
    | none => true)
theorem anyE_take {i : Nat} {oi : Oper} {v : Value} {n : Nat} {listed : Array Bool} {a : Act} {w : World} {xs : List Nat} (N : List Nat) (hi : ops[i]? = some oi)
    (hs : Region.noSelect ops = true) (hf : Region.free md ops listed i = true) (hr : (Region.ready md ops listed).contains i = true) (hx : waitsE md ops listed xs N i = true)
    (hQ : ∀ c a w, Q (.panic c) (a.put oi.dst v) w → Q (.panic c) a w) (hy : YieldsIf P ops S oi v a) (hS : S w)
    (h : anyE P md ops Q S (fun j => xs.contains j) n (listed.setIfInBounds i true) (a.put oi.dst v) w) : anyE P md ops Q S (fun j => xs.contains j) (n + 1) listed a w := by
  unfold waitsE at hx
  rw [Bool.and_eq_true, List.all_eq_true, List.all_eq_true] at hx
  refine anyE_first hi (Region.noSelect_spec hs) hQ (N := N) (fun j hj => List.contains_iff_mem.1 (hx.1 j (List.contains_iff_mem.1 hj))) (fun j hj oj hoj => ?_) n listed a w (Region.free_spec hi hf) (by simpa using hr) (fun k hk => ?_) hy hS h
  · have := hx.2 j hj
    rw [hoj, Bool.and_eq_true] at this
    obtain ⟨e, he, hb⟩ := Array.any_eq_true'.1 this.2
    rw [Bool.and_eq_true, Bool.or_eq_true, beq_iff_eq, List.contains_iff_mem] at hb
    exact ⟨e, he, hb.1, hb.2⟩
  · have := hx.2 k hk
    rw [Bool.and_eq_true, Bool.not_eq_true'] at this
    exact this.1
theorem anyE_all {rs : List Nat} {n : Nat} {listed : Array Bool} {a : Act} {w : World} (hr : Region.ready md ops listed = rs) (hne : rs ≠ [])
    (h : ∀ i ∈ rs, wpOp P ops Q i (fun a' w' => (E i = false → S w') ∧ anyE P md ops Q S E n (listed.setIfInBounds i true) a' w') a w) : anyE P md ops Q S E (n + 1) listed a w :=
  ⟨fun h0 => absurd (hr ▸ h0) hne, hr ▸ h⟩
theorem anyE_done {listed : Array Bool} {a : Act} {w : World} (hr : Region.ready md ops listed = []) (h : Q .normal a w) : ∀ n, anyE P md ops Q S E n listed a w
  | 0 => ⟨hr, h⟩
  | _ + 1 => ⟨fun _ => h, by rw [hr]; simp⟩
/-- One operation is ready. -/
theorem anyE_one {i : Nat} {o : Oper} {n : Nat} {listed : Array Bool} {a : Act} {w : World} (hr : Region.ready md ops listed = [i]) (ho : ops[i]? = some o)
    (h : ∀ K' : Act → World → Prop, Go.Shut (∀ a w, (E i = false → S w) → anyE P md ops Q S E n (listed.setIfInBounds i true) a w → K' a w) → if Region.wanted o (yielded ops a.tmps) = true then Oper.wp P o a w K' Q else K' (a.put o.dst undef) w) :
    anyE P md ops Q S E (n + 1) listed a w :=
  anyE_all hr (by simp) fun j hj => by
    rw [List.mem_singleton] at hj
    subst hj
    exact wpOp_step ho fun K' hK => h K' fun a w hS hW => hK a w ⟨hS, hW⟩
theorem wp_region_E {id : Nat} {a : Act} {w : World} (hm : P.follows .mixedOrders = true) (h : anyE P .any ops Q S E ops.size (Array.replicate ops.size false) a w.drew) : (Code.region id ops true).wp P Q a w :=
  wp_region_any hm (any_of_E _ _ _ _ h)
end
end Go.Proofs.YtgoojcjfhghmgaaDoor
