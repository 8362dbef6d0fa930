/- Plain laws of histories with which nothing is wrong. -/
import Derived.Test.YtghmjconljdapaaV
namespace Go.Proofs.Ytghmjconljdapaa

theorem sized_of {l : List Tx} (h : largeL l = false) (ht : ∀ x ∈ l, 0 ≤ x.t) : Sized l ∧ l.length ≤ 40 := by
  unfold largeL at h
  simp only [Bool.or_eq_false_iff, decide_eq_false_iff_not, List.any_eq_false, Nat.not_lt] at h
  obtain ⟨h1, h2⟩ := h
  have h3 : ∀ x ∈ l, x.rs.length ≤ 20 ∧ x.ws.length ≤ 20 := by
    intro x hx
    have := h2 x hx
    unfold bigT at this
    simp only [Bool.or_eq_true, decide_eq_true_eq, not_or, Nat.not_lt] at this
    exact ⟨this.1.1.1, this.1.1.2⟩
  exact ⟨⟨by omega, fun x hx => by have := h3 x hx; omega, fun x hx => by have := h3 x hx; omega, ht⟩, h1⟩

/-- What is wrong is of one of two kinds. -/
theorem stale_kind {l : List Tx} {f : Flt} (h : staleOf l = some f) : ∃ (i : Nat) (x : Tx) (r : Rd), l[i]? = some x ∧ x.t ≠ 0 ∧ r ∈ x.rs ∧ badR l x r = true ∧ f = ⟨1, i, 0, r.k⟩ := by
  obtain ⟨i, x, hx, hf, _⟩ := scan_of_some h
  unfold staleT at hf
  split at hf
  · cases hf
  · rename_i ht
    obtain ⟨j, r, hr, hg, _⟩ := scan_of_some hf
    unfold staleR at hg
    split at hg
    · rename_i hb
      exact ⟨i, x, r, hx, ht, List.mem_of_getElem? hr, hb, (Option.some.inj hg).symm⟩
    · cases hg

theorem lost_kind {l : List Tx} {f : Flt} (h : lostOf l = some f) : ∃ (i j : Nat) (x y : Tx) (m : Mt), l[i]? = some x ∧ l[j]? = some y ∧ x.s < y.t ∧ y.t < x.t ∧ m ∈ x.ws ∧ (wroteOf m.k y.ws).isSome = true ∧ f = ⟨2, i, j, m.k⟩ := by
  obtain ⟨i, x, hx, hf, _⟩ := scan_of_some h
  obtain ⟨j, y, hy, hg, _⟩ := scan_of_some hf
  unfold lostJ at hg
  split at hg
  · cases hg
  · rename_i hc
    obtain ⟨k, m, hm, hk, _⟩ := scan_of_some hg
    unfold lostM at hk
    split at hk
    · rename_i hw
      exact ⟨i, j, x, y, m, hx, hy, by omega, by omega, List.mem_of_getElem? hm, hw, (Option.some.inj hk).symm⟩
    · cases hk

/-- What Look tells, in three ways. -/
theorem look_ways (l : List Tx) : (mayL l = false ∧ faultOf l = noFlt ∧ errOf l = 2) ∨ (mayL l = true ∧ errOf l = 0 ∧
    ((staleOf l = none ∧ lostOf l = none ∧ faultOf l = noFlt) ∨ (∃ f, staleOf l = some f ∧ faultOf l = f) ∨ ∃ f, staleOf l = none ∧ lostOf l = some f ∧ faultOf l = f)) := by
  unfold faultOf errOf
  cases hm : mayL l with
  | false => exact .inl ⟨rfl, rfl, rfl⟩
  | true =>
    refine .inr ⟨rfl, rfl, ?_⟩
    cases hs : staleOf l with
    | some f => exact .inr (.inl ⟨f, rfl, rfl⟩)
    | none =>
      cases hl : lostOf l with
      | some f => exact .inr (.inr ⟨f, rfl, rfl, rfl⟩)
      | none => exact .inl ⟨rfl, rfl, rfl⟩

/-- Times are one transaction's alone. -/
theorem times_apart {l : List Tx} (h : (times l).Nodup) {i j : Nat} {x y : Tx} (hx : l[i]? = some x) (hy : l[j]? = some y) (hij : i ≠ j) {a : Int} (ha : a ∈ timesOf x) (hb : a ∈ timesOf y) : False := by
  unfold times at h
  rw [List.nodup_iff_pairwise_ne, List.pairwise_flatMap] at h
  have h2 := h.2
  obtain ⟨hi, rfl⟩ := List.getElem?_eq_some_iff.1 hx
  obtain ⟨hj, rfl⟩ := List.getElem?_eq_some_iff.1 hy
  rw [List.pairwise_iff_getElem] at h2
  rcases Nat.lt_or_gt_of_ne hij with h3 | h3
  · exact h2 i j hi hj h3 a ha a hb rfl
  · exact h2 j i hj hi h3 a hb a ha rfl

theorem commit_mem {x : Tx} (h : 0 < x.t) : x.t ∈ timesOf x := by
  unfold timesOf
  rw [if_pos h]
  simp
theorem start_mem (x : Tx) : x.s ∈ timesOf x := by
  unfold timesOf
  split <;> simp

theorem wrote_some {key : ByteArray} {ws : List Mt} {m : Mt} (hm : m ∈ ws) (h : (m.k.toList == key.toList) = true) : (wroteOf key ws).isSome = true := by
  unfold wroteOf
  rw [List.find?_isSome]
  exact ⟨m, hm, h⟩

theorem lost_none {l : List Tx} (h : lostOf l = none) {i j : Nat} {x y : Tx} (hx : l[i]? = some x) (hy : l[j]? = some y) {m : Mt} (hm : m ∈ x.ws) (hw : (wroteOf m.k y.ws).isSome = true) : y.t ≤ x.s ∨ x.t ≤ y.t := by
  have h1 := scan_none.1 (scan_none.1 h i x hx) j y hy
  unfold lostJ at h1
  split at h1
  · assumption
  · exfalso
    obtain ⟨k, hk⟩ := List.mem_iff_getElem?.1 hm
    have h2 := scan_none.1 h1 k m hk
    unfold lostM at h2
    rw [if_pos hw] at h2
    cases h2

/-- Of two that wrote the same key one began behind the other one's commit. -/
theorem saw_law {l : List Tx} (hm : mayL l = true) (hl : lostOf l = none) (ht : ∀ x ∈ l, 0 ≤ x.t) {i j : Nat} {x y : Tx} (hx : l[i]? = some x) (hy : l[j]? = some y) (hij : i ≠ j) (h1 : ¬ x.t = 0) (h2 : ¬ y.t = 0)
    {m n : Mt} (hmx : m ∈ x.ws) (hny : n ∈ y.ws) (hk : (m.k.toList == n.k.toList) = true) (h3 : x.s < y.t) : ¬ y.s < x.t := by
  intro h4
  have t1 := ht x (List.mem_of_getElem? hx)
  have t2 := ht y (List.mem_of_getElem? hy)
  have hne : x.t ≠ y.t := by
    intro e
    refine times_apart ((mayL_iff l).1 hm).2 hx hy hij (commit_mem (Int.lt_iff_le_and_ne.2 ⟨t1, fun e => h1 e.symm⟩)) (?_ : x.t ∈ timesOf y)
    rw [e]
    exact commit_mem (Int.lt_iff_le_and_ne.2 ⟨t2, fun e => h2 e.symm⟩)
  have hk' : (n.k.toList == m.k.toList) = true := by
    rw [beq_iff_eq] at hk ⊢
    exact hk.symm
  have a := lost_none hl hx hy hmx (wrote_some hny hk')
  have b := lost_none hl hy hx hny (wrote_some hmx hk)
  omega

end Go.Proofs.Ytghmjconljdapaa
