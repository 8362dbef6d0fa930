/- Rotations, and the merge in place: plain laws. -/
import Derived.Test.YtghmjconljdapaaS2
namespace Go.Proofs.Ytghmjconljdapaa

theorem Turned.kd {xs : List Tx} {a m b : Nat} {d d' : Nat → Int} (h : Turned a m b d d') : Turned a m b (kd xs d) (Ytghmjconljdapaa.kd xs d') :=
  ⟨fun k h1 h2 => by unfold Ytghmjconljdapaa.kd; rw [h.1 k h1 h2], fun k h1 h2 => by unfold Ytghmjconljdapaa.kd; rw [h.2.1 k h1 h2], fun k hk => by unfold Ytghmjconljdapaa.kd; rw [h.2.2 k hk]⟩

theorem Turned.same {a m b : Nat} (d : Nat → Int) (h : a = m ∨ m = b) (h1 : a ≤ m) (h2 : m ≤ b) : Turned a m b d d := by
  refine ⟨fun k k1 k2 => ?_, fun k k1 k2 => ?_, fun _ _ => rfl⟩
  · rcases h with rfl | rfl
    · congr 1; omega
    · omega
  · rcases h with rfl | rfl
    · omega
    · congr 1; omega

theorem rot1 {s i j : Nat} {d d1 d2 : Nat → Int} (hij : j < i) (h : Swapped s (s + i) j d d1) (g : Turned (s + j) (s + i) (s + i + j) d1 d2) : Turned s (s + i) (s + i + j) d d2 := by
  obtain ⟨h1, h2, h3⟩ := h
  obtain ⟨g1, g2, g3⟩ := g
  refine ⟨fun k k1 k2 => ?_, fun k k1 k2 => ?_, fun k k1 => ?_⟩
  · rw [g3 k (by omega), h1 k (by omega) (by omega)]
  · by_cases e : k < s + j + j
    · rw [g1 k (by omega) (by omega), h2 _ (by omega) (by omega)]
      congr 1; omega
    · rw [g2 k (by omega) (by omega), h3 _ (by omega) (by omega)]
      congr 1; omega
  · rw [g3 k (by omega), h3 k (by omega) (by omega)]

theorem rot2 {s i j : Nat} {d d1 d2 : Nat → Int} (hij : i < j) (h : Swapped s (s + j) i d d1) (g : Turned s (s + i) (s + j) d1 d2) : Turned s (s + i) (s + i + j) d d2 := by
  obtain ⟨h1, h2, h3⟩ := h
  obtain ⟨g1, g2, g3⟩ := g
  refine ⟨fun k k1 k2 => ?_, fun k k1 k2 => ?_, fun k k1 => ?_⟩
  · by_cases e : k < s + (j - i)
    · rw [g1 k (by omega) (by omega)]
      by_cases e2 : s + i + (k - s) < s + j
      · rw [h3 _ (by omega) (by omega)]
      · omega
    · rw [g2 k (by omega) (by omega), h1 _ (by omega) (by omega)]
      congr 1; omega
  · rw [g3 k (by omega), h2 k (by omega) (by omega)]
    congr 1; omega
  · rw [g3 k (by omega), h3 k (by omega) (by omega)]

theorem rot3 {s i : Nat} {d d2 : Nat → Int} (h : Swapped s (s + i) i d d2) : Turned s (s + i) (s + i + i) d d2 := by
  obtain ⟨h1, h2, h3⟩ := h
  refine ⟨fun k k1 k2 => ?_, fun k k1 k2 => ?_, fun k k1 => ?_⟩
  · rw [h1 k (by omega) (by omega)]
  · rw [h2 k (by omega) (by omega)]
    congr 1; omega
  · rw [h3 k (by omega) (by omega)]

/-- One number more is turned about, from the left. -/
theorem turn_up {a k : Nat} {d d' : Nat → Int} (hk : a ≤ k) (h : Turned a (a + 1) (k + 1) d d') : Turned a (a + 1) (k + 2) d (swapF d' k (k + 1)) := by
  obtain ⟨h1, h2, h3⟩ := h
  refine ⟨fun q q1 q2 => ?_, fun q q1 q2 => ?_, fun q q1 => ?_⟩
  · unfold swapF
    by_cases e : q = k
    · subst e
      rw [if_pos rfl, h3 (q + 1) (by omega)]
      congr 1; omega
    · rw [if_neg e, if_neg (by omega), h1 q q1 (by omega)]
  · obtain rfl : q = k + 1 := by omega
    unfold swapF
    rw [if_neg (by omega), if_pos rfl, h2 k (by omega) (by omega)]
    congr 1; omega
  · unfold swapF
    rw [if_neg (by omega), if_neg (by omega), h3 q (by omega)]

/-- .. from the right. -/
theorem turn_down {k m : Nat} {d d' : Nat → Int} (hk : 0 < k) (hkm : k ≤ m) (h : Turned k m (m + 1) d d') : Turned (k - 1) m (m + 1) d (swapF d' k (k - 1)) := by
  obtain ⟨h1, h2, h3⟩ := h
  refine ⟨fun q q1 q2 => ?_, fun q q1 q2 => ?_, fun q q1 => ?_⟩
  · obtain rfl : q = k - 1 := by omega
    unfold swapF
    rw [if_neg (by omega), if_pos rfl, h1 k (by omega) (by omega)]
    congr 1; omega
  · unfold swapF
    by_cases e : q = k
    · subst e
      rw [if_pos rfl, h3 (q - 1) (by omega)]
      congr 1; omega
    · rw [if_neg e, if_neg (by omega), h2 q (by omega) q2]
      congr 1; omega
  · unfold swapF
    rw [if_neg (by omega), if_neg (by omega), h3 q (by omega)]

/-- A first number is brought to its place. -/
theorem put_first {f f' : Nat → Int} {a b i : Nat} (h : Upto f (a + 1) b) (hc : Cut (fun k => f k < f a) (a + 1) b i i) (ht : Turned a (a + 1) i f f') : Upto f' a b := by
  obtain ⟨c1, _, c3, c4, c5⟩ := hc
  obtain ⟨t1, t2, t3⟩ := ht
  have v : ∀ k, a ≤ k → k < b → f' k = if k < i - 1 then f (k + 1) else if k = i - 1 then f a else f k := by
    intro k k1 k2
    by_cases e1 : k < i - 1
    · rw [if_pos e1, t1 k k1 (by omega)]
      congr 1; omega
    · rw [if_neg e1]
      by_cases e2 : k = i - 1
      · rw [if_pos e2, t2 k (by omega) (by omega)]
        congr 1; omega
      · rw [if_neg e2, t3 k (by omega)]
  intro p q hp hpq hq
  rw [v p hp (by omega), v q (by omega) hq]
  by_cases e1 : p < i - 1
  · rw [if_pos e1]
    by_cases e2 : q < i - 1
    · rw [if_pos e2]
      exact h (p + 1) (q + 1) (by omega) (by omega) (by omega)
    · rw [if_neg e2]
      have := c4 (p + 1) (by omega) (by omega)
      by_cases e3 : q = i - 1
      · rw [if_pos e3]; omega
      · rw [if_neg e3]
        have := c5 q (by omega) hq
        omega
  · rw [if_neg e1]
    by_cases e2 : p = i - 1
    · rw [if_pos e2, if_neg (by omega), if_neg (by omega)]
      have := c5 q (by omega) hq
      omega
    · rw [if_neg e2, if_neg (by omega), if_neg (by omega)]
      exact h p q (by omega) hpq hq

/-- A last number is brought to its place. -/
theorem put_last {f f' : Nat → Int} {a m i : Nat} (h : Upto f a m) (hc : Cut (fun k => ¬ f m < f k) a m i i) (ht : Turned i m (m + 1) f f') : Upto f' a (m + 1) := by
  obtain ⟨c1, _, c3, c4, c5⟩ := hc
  obtain ⟨t1, t2, t3⟩ := ht
  have v : ∀ k, a ≤ k → k < m + 1 → f' k = if k < i then f k else if k = i then f m else f (k - 1) := by
    intro k k1 k2
    by_cases e1 : k < i
    · rw [if_pos e1, t3 k (by omega)]
    · rw [if_neg e1]
      by_cases e2 : k = i
      · rw [if_pos e2, t1 k (by omega) (by omega)]
        congr 1; omega
      · rw [if_neg e2, t2 k (by omega) (by omega)]
        congr 1; omega
  intro p q hp hpq hq
  rw [v p hp (by omega), v q (by omega) hq]
  by_cases e1 : p < i
  · rw [if_pos e1]
    have hp1 := c4 p hp e1
    by_cases e2 : q < i
    · rw [if_pos e2]
      exact h p q hp hpq (by omega)
    · rw [if_neg e2]
      by_cases e3 : q = i
      · rw [if_pos e3]; omega
      · rw [if_neg e3]
        by_cases e4 : p = q - 1
        · omega
        · exact h p (q - 1) hp (by omega) (by omega)
  · rw [if_neg e1]
    by_cases e2 : p = i
    · rw [if_pos e2, if_neg (by omega), if_neg (by omega)]
      have hlt : q - 1 < m := by omega
      have := c5 (q - 1) (by omega) hlt
      omega
    · rw [if_neg e2, if_neg (by omega), if_neg (by omega)]
      exact h (p - 1) (q - 1) (by omega) (by omega) (by omega)

/-- The bounds of the search. -/
structure Bnd (a m b mid lo hi : Nat) : Prop where
  am : a < m
  mb : m < b
  half : mid = (a + b) / 2
  way : (mid < m ∧ lo = mid + m - b ∧ hi = mid) ∨ (m ≤ mid ∧ lo = a ∧ hi = m)

theorem Bnd.facts {a m b mid lo hi : Nat} (h : Bnd a m b mid lo hi) : a ≤ lo ∧ lo ≤ hi ∧ hi ≤ m ∧ hi ≤ mid ∧ mid + m ≤ lo + b ∧ a < mid + 1 ∧ mid < b ∧ a ≤ mid := by
  obtain ⟨h1, h2, h3, h4⟩ := h
  omega

theorem Bnd.mono {f : Nat → Int} {a m b mid lo hi : Nat} (h : Bnd a m b mid lo hi) (h1 : Upto f a m) (h2 : Upto f m b) : ∀ i j, lo ≤ i → i < j → j < hi → ¬ f (mid + m - 1 - j) < f j → ¬ f (mid + m - 1 - i) < f i := by
  intro i j hi' hij hj hp
  obtain ⟨f1, f2, f3, f4, f5, f6, f7, f8⟩ := h.facts
  have e1 := h1 i j (by omega) hij (by omega)
  have e2 := h2 (mid + m - 1 - j) (mid + m - 1 - i) (by omega) (by omega) (by omega)
  omega

/-- Behind the turn the halves are apart. -/
theorem merge_law {f f' : Nat → Int} {a m b mid lo hi s : Nat} (hb : Bnd a m b mid lo hi) (h1 : Upto f a m) (h2 : Upto f m b) (hc : Cut (fun c => ¬ f (mid + m - 1 - c) < f c) lo hi s s) (ht : Turned s m (mid + m - s) f f') :
    s ≤ m ∧ m ≤ mid + m - s ∧ mid + m - s ≤ b ∧ a ≤ s ∧ s ≤ mid ∧ mid ≤ mid + m - s ∧ Upto f' a s ∧ Upto f' s mid ∧ Upto f' mid (mid + m - s) ∧ Upto f' (mid + m - s) b ∧ Below2 f' a mid b := by
  obtain ⟨f1, f2, f3, f4, f5, f6, f7, f8⟩ := hb.facts
  obtain ⟨c1, _, c3, c4, c5⟩ := hc
  obtain ⟨t1, t2, t3⟩ := ht
  have v1 : ∀ k, k < s → f' k = f k := fun k hk => t3 k (.inl hk)
  have v2 : ∀ k, s ≤ k → k < mid → f' k = f (m + (k - s)) := fun k k1 k2 => t1 k k1 (by omega)
  have v3 : ∀ k, mid ≤ k → k < mid + m - s → f' k = f (s + (k - mid)) := fun k k1 k2 => by
    rw [t2 k (by omega) k2]
    congr 1; omega
  have v4 : ∀ k, mid + m - s ≤ k → f' k = f k := fun k hk => t3 k (.inr hk)
  refine ⟨by omega, by omega, by omega, by omega, by omega, by omega, fun p q hp hpq hq => ?_, fun p q hp hpq hq => ?_, fun p q hp hpq hq => ?_, fun p q hp hpq hq => ?_, fun i j hi1 hi2 hj1 hj2 => ?_⟩
  · rw [v1 p (by omega), v1 q hq]
    exact h1 p q hp hpq (by omega)
  · rw [v2 p hp (by omega), v2 q (by omega) hq]
    exact h2 _ _ (by omega) (by omega) (by omega)
  · rw [v3 p hp (by omega), v3 q (by omega) hq]
    exact h1 _ _ (by omega) (by omega) (by omega)
  · rw [v4 p hp, v4 q (by omega)]
    exact h2 p q (by omega) hpq hq
  · by_cases e1 : i < s
    · rw [v1 i e1]
      by_cases e2 : j < mid + m - s
      · rw [v3 j hj1 e2]
        exact h1 i _ hi1 (by omega) (by omega)
      · rw [v4 j (by omega)]
        have hs : lo < s := by
          rcases hb.way with ⟨w1, w2, w3⟩ | ⟨w1, w2, w3⟩ <;> omega
        have hx := c4 (s - 1) (by omega) (by omega)
        have e3 : mid + m - 1 - (s - 1) = mid + m - s := by omega
        simp only [e3] at hx
        have a1 := h1.le (i := i) (j := s - 1) hi1 (by omega) (by omega)
        have a2 := h2.le (i := mid + m - s) (j := j) (by omega) (by omega) hj2
        omega
    · rw [v2 i (by omega) hi2]
      by_cases e2 : j < mid + m - s
      · rw [v3 j hj1 e2]
        have hs : s < hi := by
          rcases hb.way with ⟨w1, w2, w3⟩ | ⟨w1, w2, w3⟩ <;> omega
        have hx := c5 s (Nat.le_refl _) hs
        have e3 : mid + m - 1 - s = mid + m - s - 1 := by omega
        simp only [e3] at hx
        have a1 := h2.le (i := m + (i - s)) (j := mid + m - s - 1) (by omega) (by omega) (by omega)
        have a2 := h1.le (i := s) (j := s + (j - mid)) (by omega) (by omega) (by omega)
        omega
      · rw [v4 j (by omega)]
        exact h2 _ _ (by omega) (by omega) hj2

end Go.Proofs.Ytghmjconljdapaa
