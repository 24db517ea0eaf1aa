/- The search finds the least time; sorted orders have it: no program. -/
import Derived.Test.YtoegemlpboeodaaPlain3
import Derived.Test.YtoegemlpboeodaaPlain6
namespace Go.Proofs.Ytoegemlpboeodaa

theorem fold_le (b : List Bt) (h : OkL b) (s : Int × Int) : s.2 ≤ (b.foldl stp s).2 := by
  induction b generalizing s with
  | nil => exact Int.le_refl _
  | cons x b ih =>
    have hx := h x (by simp)
    have := ih (fun y hy => h y (by simp [hy])) (stp s x)
    rw [List.foldl_cons]
    simp only [stp] at this ⊢
    omega

/-- What is known of the best so far. -/
def Good (l : List Bt) (s : Int × List Int) : Prop := s.1 < 0 ∨ (s.2.Perm (iota l.length) ∧ timeS (bts l s.2) = s.1 ∧ 0 ≤ s.1)
/-- No ending of a beginning is better. -/
def Least (l : List Bt) (p : List Int) (t : Int) : Prop := ∀ q, (p ++ q).Perm (iota l.length) → t ≤ timeS (bts l (p ++ q))
theorem Least.mono {l : List Bt} {p : List Int} {t u : Int} (h : Least l p t) (hu : u ≤ t) : Least l p u := fun q hq => Int.le_trans hu (h q hq)
theorem bts_append (l : List Bt) (p q : List Int) : bts l (p ++ q) = bts l p ++ bts l q := by simp [bts]
theorem least_end {l : List Bt} (hv : valB l = 0) {p : List Int} {c e : Int} (he : (bts l p).foldl stp (0, 0) = (c, e)) : Least l p e := by
  intro q _
  rw [bts_append, timeS, List.foldl_append, he]
  exact fold_le _ (bts_ok hv q) (c, e)

theorem try_spec {l : List Bt} (hv : valB l = 0) : ∀ (m : Nat) (p : List Int) (c e : Int) (s : Int × List Int), (bts l p).foldl stp (0, 0) = (c, e) → (∃ q, q.length = m ∧ (p ++ q).Perm (iota l.length)) → Good l s →
    Good l (tryS l m p c e s) ∧ 0 ≤ (tryS l m p c e s).1 ∧ (0 ≤ s.1 → (tryS l m p c e s).1 ≤ s.1) ∧ Least l p (tryS l m p c e s).1 := by
  intro m
  induction m with
  | zero =>
    intro p c e s he hq hg
    obtain ⟨q, hq0, hqp⟩ := hq
    obtain rfl := List.eq_nil_of_length_eq_zero hq0
    rw [List.append_nil] at hqp
    have hl := least_end hv he
    have h0 : 0 ≤ e := by
      have := fold_le (bts l p) (bts_ok hv p) (0, 0)
      rw [he] at this; exact this
    rw [tryS]
    by_cases ht : 0 ≤ s.1 ∧ s.1 ≤ e
    · rw [if_pos ht]
      exact ⟨hg, ht.1, fun _ => Int.le_refl _, hl.mono ht.2⟩
    · rw [if_neg ht]
      refine ⟨.inr ⟨hqp, ?_, h0⟩, h0, fun h => ?_, hl⟩
      · show ((bts l p).foldl stp (0, 0)).2 = e
        rw [he]
      · show e ≤ s.1
        omega
  | succ m ih =>
    intro p c e s he hq hg
    have hl := least_end hv he
    rw [tryS]
    by_cases ht : 0 ≤ s.1 ∧ s.1 ≤ e
    · rw [if_pos ht]
      exact ⟨hg, ht.1, fun _ => Int.le_refl _, hl.mono ht.2⟩
    · rw [if_neg ht]
      obtain ⟨q, hq0, hqp⟩ := hq
      have hnd : (p ++ q).Nodup := hqp.nodup_iff.2 (iota_nodup _)
      have key : ∀ (ks : List Int), (∀ i ∈ ks, i ∈ iota l.length) → ∀ s : Int × List Int, Good l s →
          Good l (ks.foldl (tryB l (tryS l m) p c e) s) ∧ (0 ≤ s.1 → 0 ≤ (ks.foldl (tryB l (tryS l m) p c e) s).1 ∧ (ks.foldl (tryB l (tryS l m) p c e) s).1 ≤ s.1) ∧
            ∀ i ∈ ks, i ∉ p → 0 ≤ (ks.foldl (tryB l (tryS l m) p c e) s).1 ∧ Least l (p ++ [i]) (ks.foldl (tryB l (tryS l m) p c e) s).1 := by
        intro ks
        induction ks with
        | nil => intro _ s hg; exact ⟨hg, fun h => ⟨h, Int.le_refl _⟩, by simp⟩
        | cons k ks ihk =>
          intro hks s hg
          rw [List.foldl_cons]
          by_cases hc : p.contains k = true
          · have hb : tryB l (tryS l m) p c e s k = s := if_pos hc
            rw [hb]
            obtain ⟨g, mono, lst⟩ := ihk (fun i hi => hks i (by simp [hi])) s hg
            refine ⟨g, mono, fun i hi hip => ?_⟩
            rcases List.mem_cons.1 hi with rfl | hi
            · exact absurd (by simpa using hc) hip
            · exact lst i hi hip
          · have hb : tryB l (tryS l m) p c e s k = tryS l m (p ++ [k]) (c + (bt l k).1) (max (c + (bt l k).1) e + (bt l k).2) s := if_neg hc
            have hkp : k ∉ p := by simpa using hc
            have hkq : k ∈ q := by
              have : k ∈ p ++ q := hqp.mem_iff.2 (hks k (by simp))
              rcases List.mem_append.1 this with h | h
              · exact absurd h hkp
              · exact h
            obtain ⟨g1, p1, mono1, l1⟩ := ih (p ++ [k]) (c + (bt l k).1) (max (c + (bt l k).1) e + (bt l k).2) s
              (by rw [bts_append, List.foldl_append, he]; rfl)
              ⟨q.erase k, by rw [List.length_erase_of_mem hkq]; omega, by
                rw [List.append_assoc]
                refine List.Perm.trans ?_ hqp
                exact List.Perm.append_left p (List.perm_cons_erase hkq).symm⟩ hg
            rw [hb]
            obtain ⟨g, mono, lst⟩ := ihk (fun i hi => hks i (by simp [hi])) _ g1
            refine ⟨g, fun h => ⟨(mono p1).1, Int.le_trans (mono p1).2 (mono1 h)⟩, fun i hi hip => ?_⟩
            rcases List.mem_cons.1 hi with rfl | hi
            · exact ⟨(mono p1).1, l1.mono (mono p1).2⟩
            · exact lst i hi hip
      obtain ⟨g, mono, lst⟩ := key (iota l.length) (fun i hi => hi) s hg
      have ex : ∃ i ∈ iota l.length, i ∉ p := by
        cases q with
        | nil => simp at hq0
        | cons i q =>
          refine ⟨i, hqp.mem_iff.1 (by simp), fun h => ?_⟩
          have := List.nodup_append.1 hnd
          exact this.2.2 i h i (by simp) rfl
      refine ⟨g, ?_, fun h => (mono h).2, fun r hr => ?_⟩
      · obtain ⟨i, hi, hip⟩ := ex; exact (lst i hi hip).1
      · cases r with
        | nil =>
          have h1 := hr.length_eq
          have h2 := hqp.length_eq
          simp at h1 h2
          omega
        | cons i r =>
          have hnr : (p ++ i :: r).Nodup := hr.nodup_iff.2 (iota_nodup _)
          have hip : i ∉ p := fun h => (List.nodup_append.1 hnr).2.2 i h i (by simp) rfl
          have := (lst i (hr.mem_iff.1 (by simp)) hip).2 r (by simpa using hr)
          simpa using this

theorem best_spec {l : List Bt} (hv : valB l = 0) : (bestS l).2.Perm (iota l.length) ∧ timeS (bts l (bestS l).2) = (bestS l).1 ∧ 0 ≤ (bestS l).1 ∧ ∀ o, o.Perm (iota l.length) → (bestS l).1 ≤ timeS (bts l o) := by
  obtain ⟨g, h0, _, hl⟩ := try_spec hv l.length [] 0 0 (-1, []) rfl ⟨iota l.length, iota_length _, List.Perm.refl _⟩ (.inl (by decide))
  rcases g with g | ⟨g1, g2, _⟩
  · exact absurd g (by have : bestS l = tryS l l.length [] 0 0 (-1, []) := rfl; omega)
  · exact ⟨g1, g2, h0, fun o ho => hl o ho⟩
/-- The least time, by what it is. -/
theorem best_eq {l : List Bt} (hv : valB l = 0) {t : Int} (h1 : ∃ o, o.Perm (iota l.length) ∧ timeS (bts l o) = t) (h2 : ∀ o, o.Perm (iota l.length) → t ≤ timeS (bts l o)) : (bestS l).1 = t := by
  obtain ⟨g1, g2, _, g4⟩ := best_spec hv
  obtain ⟨o, ho, rfl⟩ := h1
  have := g4 o ho
  have := h2 _ g1
  omega

/-- Sooner, or at the same time. -/
def leS (s t : Int × Int) : Prop := s.1 ≤ t.1 ∧ s.2 ≤ t.2
theorem leS.refl (s : Int × Int) : leS s s := ⟨Int.le_refl _, Int.le_refl _⟩
theorem leS.trans {s t u : Int × Int} (h : leS s t) (h' : leS t u) : leS s u := ⟨Int.le_trans h.1 h'.1, Int.le_trans h.2 h'.2⟩
theorem leS.stp {s t : Int × Int} (h : leS s t) (b : Bt) : leS (stp s b) (stp t b) := by
  obtain ⟨h1, h2⟩ := h
  constructor <;> simp only [Go.Proofs.Ytoegemlpboeodaa.stp] <;> omega
theorem leS.fold {s t : Int × Int} (h : leS s t) (b : List Bt) : leS (b.foldl Go.Proofs.Ytoegemlpboeodaa.stp s) (b.foldl Go.Proofs.Ytoegemlpboeodaa.stp t) := by
  induction b generalizing s t with
  | nil => exact h
  | cons x b ih => exact ih (h.stp x)
end Go.Proofs.Ytoegemlpboeodaa
