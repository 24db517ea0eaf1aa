/- Plain words for batches, orders and times: no program. -/
namespace Go.Proofs.Ytoegemlpboeodaa

def inB (x lo hi : Int) : Bool := decide (lo ≤ x ∧ x ≤ hi)
theorem inB_iff {x lo hi : Int} : inB x lo hi = true ↔ lo ≤ x ∧ x ≤ hi := by simp [inB]

abbrev Bt := Int × Int
def okB (x : Bt) : Bool := inB x.1 0 1000 && inB x.2 0 1000
/-- The error of batches. -/
def valB (l : List Bt) : Int := if l.length > 7 then 4 else if l.all okB then 0 else 1
def iota (n : Nat) : List Int := (List.range n).map Int.ofNat
def isOrd (n : Nat) (o : List Int) : Bool := decide (o.Perm (iota n))
/-- The error of batches and an order. -/
def exB (l : List Bt) (o : List Int) : Int := if valB l = 0 then (if isOrd l.length o then 0 else 1) else valB l

theorem valB_zero {l : List Bt} (h : valB l = 0) : l.length ≤ 7 ∧ ∀ x ∈ l, 0 ≤ x.1 ∧ x.1 ≤ 1000 ∧ 0 ≤ x.2 ∧ x.2 ≤ 1000 := by
  unfold valB at h
  split at h
  · omega
  · split at h
    · rename_i h1 h2
      refine ⟨by omega, fun x hx => ?_⟩
      have := List.all_eq_true.1 h2 x hx
      simp [okB, inB_iff] at this; omega
    · omega
theorem valB_bd (l : List Bt) : valB l = 0 ∨ valB l = 1 ∨ valB l = 4 := by
  unfold valB
  split
  · simp
  · split <;> simp

theorem iota_length (n : Nat) : (iota n).length = n := by simp [iota]
theorem iota_get (n i : Nat) (h : i < (iota n).length) : (iota n)[i] = (i : Int) := by simp [iota]
theorem mem_iota {n : Nat} {x : Int} : x ∈ iota n ↔ 0 ≤ x ∧ x < n := by
  simp only [iota, List.mem_map, List.mem_range]
  constructor
  · rintro ⟨a, ha, rfl⟩; simp; omega
  · rintro ⟨h1, h2⟩; exact ⟨x.toNat, by omega, by simp; omega⟩
theorem iota_nodup (n : Nat) : (iota n).Nodup := by
  unfold iota List.Nodup
  rw [List.pairwise_map]
  exact (List.nodup_range (n := n)).imp fun h e => h (Int.ofNat.inj e)
theorem iota_sorted (n : Nat) : (iota n).Pairwise (· ≤ ·) := by
  unfold iota
  rw [List.pairwise_map]
  exact (List.pairwise_lt_range (n := n)).imp fun h => by simp; omega

theorem perm_of_subset {α : Type} [DecidableEq α] {l : List α} : ∀ {zs : List α}, l.Nodup → (∀ x ∈ l, x ∈ zs) → zs.length = l.length → zs.Perm l := by
  induction l with
  | nil => intro zs _ _ h; rw [List.eq_nil_of_length_eq_zero h]
  | cons a t ih =>
    intro zs hn hs hl
    have ha : a ∈ zs := hs a (by simp)
    have hp := List.perm_cons_erase ha
    have hnt := (List.nodup_cons.1 hn)
    refine hp.trans (List.Perm.cons a (ih hnt.2 (fun x hx => ?_) ?_))
    · have hxz := hs x (by simp [hx])
      have hne : x ≠ a := fun e => hnt.1 (e ▸ hx)
      exact (List.mem_erase_of_ne hne).2 hxz
    · rw [List.length_erase_of_mem ha, hl]; simp

/-- By counting. -/
theorem isOrd_count (n : Nat) (o : List Int) : isOrd n o = (decide (o.length = n) && (List.range n).all fun k => decide (o.count (k : Int) = 1)) := by
  rw [Bool.eq_iff_iff]
  simp only [isOrd, decide_eq_true_eq, Bool.and_eq_true, List.all_eq_true, List.mem_range]
  constructor
  · intro h
    refine ⟨by rw [h.length_eq, iota_length], fun k hk => ?_⟩
    rw [h.count_eq]
    rw [(iota_nodup n).count, if_pos (mem_iota.2 ⟨by omega, by omega⟩)]
  · rintro ⟨h1, h2⟩
    refine perm_of_subset (iota_nodup n) (fun x hx => ?_) (by rw [h1, iota_length])
    obtain ⟨hx0, hxn⟩ := mem_iota.1 hx
    have := h2 x.toNat (by omega)
    rw [Int.toNat_of_nonneg hx0] at this
    exact List.count_pos_iff.1 (by omega)

theorem sorted_eq {s t : List Int} (hs : s.Pairwise (· ≤ ·)) (ht : t.Pairwise (· ≤ ·)) (h : s.Perm t) : s = t :=
  List.Perm.eq_of_pairwise (fun _ _ _ _ h1 h2 => Int.le_antisymm h1 h2) hs ht h
/-- By sorting. -/
theorem isOrd_sort (n : Nat) (o s : List Int) (hp : s.Perm o) (hs : s.Pairwise (· ≤ ·)) : isOrd n o = (decide (∀ i, (h : i < s.length) → s[i] = (i : Int)) && decide (o.length = n)) := by
  rw [Bool.eq_iff_iff]
  simp only [isOrd, decide_eq_true_eq, Bool.and_eq_true]
  constructor
  · intro h
    have e : s = iota n := sorted_eq hs (iota_sorted n) (hp.trans h)
    refine ⟨fun i hi => ?_, by rw [h.length_eq, iota_length]⟩
    subst e; exact iota_get n i hi
  · rintro ⟨h1, h2⟩
    have e : s = iota n := by
      apply List.ext_getElem
      · rw [hp.length_eq, h2, iota_length]
      · intro i h3 h4; rw [h1 i h3, iota_get]
    exact hp.symm.trans (e ▸ List.Perm.refl _)

theorem exB_zero {l : List Bt} {o : List Int} (h : exB l o = 0) : valB l = 0 ∧ o.Perm (iota l.length) := by
  unfold exB at h
  split at h
  · split at h
    · rename_i h1 h2; exact ⟨h1, by simpa [isOrd] using h2⟩
    · omega
  · exact absurd h ‹_›
theorem ord_mem {n : Nat} {o : List Int} (h : o.Perm (iota n)) {k : Nat} (hk : k < o.length) : 0 ≤ o[k] ∧ o[k] < n := mem_iota.1 (h.mem_iff.1 (List.getElem_mem hk))
theorem ord_length {n : Nat} {o : List Int} (h : o.Perm (iota n)) : o.length = n := by rw [h.length_eq, iota_length]

/-- The batch with a number. -/
def bt (l : List Bt) (i : Int) : Bt := l[i.toNat]?.getD (0, 0)
theorem bt_get {l : List Bt} {i : Int} (h0 : 0 ≤ i) (h : i < l.length) : bt l i = l[i.toNat]'(by omega) := by
  unfold bt; rw [List.getElem?_eq_getElem (by omega)]; rfl
theorem bt_bd {l : List Bt} (h : valB l = 0) (i : Int) : 0 ≤ (bt l i).1 ∧ (bt l i).1 ≤ 1000 ∧ 0 ≤ (bt l i).2 ∧ (bt l i).2 ≤ 1000 := by
  unfold bt
  rcases Nat.lt_or_ge i.toNat l.length with h1 | h1
  · rw [List.getElem?_eq_getElem h1]; exact (valB_zero h).2 _ (List.getElem_mem h1)
  · rw [List.getElem?_eq_none h1]; simp

/-- One batch more: when it is cooked, and packed. -/
def stp (s : Int × Int) (b : Bt) : Int × Int := (s.1 + b.1, max (s.1 + b.1) s.2 + b.2)
/-- The batches of an order. -/
def bts (l : List Bt) (o : List Int) : List Bt := o.map (bt l)
/-- When all is packed. -/
def timeS (bs : List Bt) : Int := (bs.foldl stp (0, 0)).2

/-- When the stove and the line are free behind the first k batches of an order. -/
def stAt (l : List Bt) (o : List Int) (k : Nat) : Int × Int := ((bts l o).take k).foldl stp (0, 0)
theorem bts_length (l : List Bt) (o : List Int) : (bts l o).length = o.length := by simp [bts]
theorem stAt_succ (l : List Bt) (o : List Int) {k : Nat} (hk : k < o.length) : stAt l o (k + 1) = stp (stAt l o k) (bt l o[k]) := by
  unfold stAt
  rw [List.take_succ_eq_append_getElem (by rw [bts_length]; exact hk), List.foldl_append]
  simp [bts]
theorem stAt_all (l : List Bt) (o : List Int) : (stAt l o o.length).2 = timeS (bts l o) := by
  unfold stAt timeS; rw [← bts_length l o, List.take_length]
theorem stAt_bd {l : List Bt} {o : List Int} (hv : valB l = 0) {k : Nat} (hk : k ≤ o.length) : 0 ≤ (stAt l o k).1 ∧ (stAt l o k).1 ≤ 1000 * (k : Int) ∧ 0 ≤ (stAt l o k).2 ∧ (stAt l o k).2 ≤ 2000 * (k : Int) ∧ (stAt l o k).1 ≤ 2000 * (k : Int) := by
  induction k with
  | zero => simp [stAt]
  | succ k ih =>
    have := ih (by omega)
    rw [stAt_succ l o (by omega)]
    have hb := bt_bd hv o[k]
    simp only [stp]
    omega
end Go.Proofs.Ytoegemlpboeodaa
