/- Merging two rows in order in place: plain notions. -/
import Derived.Test.YtghmjconljdapaaT
namespace Go.Proofs.Ytghmjconljdapaa

theorem Upto.sub {f : Nat → Int} {a b a' b' : Nat} (h : Upto f a b) (h1 : a ≤ a') (h2 : b' ≤ b) : Upto f a' b' := fun i j hi hij hj => h i j (by omega) hij (by omega)

theorem Upto.le {f : Nat → Int} {a b : Nat} (h : Upto f a b) {i j : Nat} (hi : a ≤ i) (hij : i ≤ j) (hj : j < b) : f i ≤ f j := by
  by_cases e : i = j
  · subst e; exact Int.le_refl _
  · exact h i j hi (by omega) hj

/-- What lies outside stays in order. -/
theorem Upto.out {xs : List Tx} {d d' : Nat → Int} {a b m p q : Nat} (h : Upto (kd xs d) p q) (hm : Moved a b m d d') (ho : q ≤ a ∨ b ≤ p) : Upto (kd xs d') p q := by
  intro i j hi hij hj
  unfold kd
  rw [hm.out i (by omega), hm.out j (by omega)]
  exact h i j hi hij hj

/-- Two rows, the first not above the second. -/
def Below2 (f : Nat → Int) (a m b : Nat) : Prop := ∀ i j, a ≤ i → i < m → m ≤ j → j < b → f i ≤ f j

theorem Upto.join {f : Nat → Int} {a m b : Nat} (h1 : Upto f a m) (h2 : Upto f m b) (h3 : Below2 f a m b) : Upto f a b := by
  intro i j hi hij hj
  by_cases e1 : j < m
  · exact h1 i j hi hij e1
  · by_cases e2 : i < m
    · exact h3 i j hi e2 (by omega) hj
    · exact h2 i j (by omega) hij hj

theorem Below2.left {xs : List Tx} {d d' : Nat → Int} {a m b n : Nat} (h : Below2 (kd xs d) a m b) (hm : Moved a m n d d') : Below2 (kd xs d') a m b := by
  intro i j hi hi2 hj hj2
  obtain ⟨i', h1, h2, e⟩ := hm.src i hi hi2
  unfold kd
  rw [e, hm.out j (by omega)]
  exact h i' j h1 h2 hj hj2

theorem Below2.right {xs : List Tx} {d d' : Nat → Int} {a m b n : Nat} (h : Below2 (kd xs d) a m b) (hm : Moved m b n d d') : Below2 (kd xs d') a m b := by
  intro i j hi hi2 hj hj2
  obtain ⟨j', h1, h2, e⟩ := hm.src j hj hj2
  unfold kd
  rw [e, hm.out i (by omega)]
  exact h i j' hi hi2 h1 h2

/-! ### A row turned about -/
/-- The rows from a to m and from m to b have changed places. -/
def Turned (a m b : Nat) (d d' : Nat → Int) : Prop :=
  (∀ k, a ≤ k → k < a + (b - m) → d' k = d (m + (k - a))) ∧ (∀ k, a + (b - m) ≤ k → k < b → d' k = d (a + (k - (a + (b - m))))) ∧ ∀ k, k < a ∨ b ≤ k → d' k = d k

/-- Two rows of n numbers have changed places. -/
def Swapped (a b n : Nat) (d d' : Nat → Int) : Prop :=
  (∀ k, a ≤ k → k < a + n → d' k = d (b + (k - a))) ∧ (∀ k, b ≤ k → k < b + n → d' k = d (a + (k - b))) ∧ ∀ k, ¬ (a ≤ k ∧ k < a + n) → ¬ (b ≤ k ∧ k < b + n) → d' k = d k

theorem Swapped.zero (a b : Nat) (d : Nat → Int) : Swapped a b 0 d d := ⟨fun k h1 h2 => by omega, fun k h1 h2 => by omega, fun _ _ _ => rfl⟩

theorem Swapped.step {a b n : Nat} {d d' : Nat → Int} (h : Swapped a b n d d') (hab : a + n < b) : Swapped a b (n + 1) d (swapF d' (a + n) (b + n)) := by
  obtain ⟨h1, h2, h3⟩ := h
  refine ⟨fun k k1 k2 => ?_, fun k k1 k2 => ?_, fun k k1 k2 => ?_⟩
  · unfold swapF
    by_cases e : k = a + n
    · subst e
      rw [if_pos rfl, h3 (b + n) (by omega) (by omega)]
      congr 1
      omega
    · rw [if_neg e, if_neg (by omega), h1 k k1 (by omega)]
  · unfold swapF
    by_cases e : k = b + n
    · subst e
      rw [if_neg (by omega), if_pos rfl, h3 (a + n) (by omega) (by omega)]
      congr 1
      omega
    · rw [if_neg (by omega), if_neg e, h2 k k1 (by omega)]
  · unfold swapF
    rw [if_neg (by omega), if_neg (by omega), h3 k (by omega) (by omega)]

/-! ### Where a binary search stands -/
/-- Below lo the test says no, from hi on yes. -/
def Cut (p : Nat → Prop) (lo0 hi0 lo hi : Nat) : Prop := lo0 ≤ lo ∧ lo ≤ hi ∧ hi ≤ hi0 ∧ (∀ k, lo0 ≤ k → k < lo → p k) ∧ ∀ k, hi ≤ k → k < hi0 → ¬ p k

theorem Cut.start (p : Nat → Prop) {lo hi : Nat} (h : lo ≤ hi) : Cut p lo hi lo hi := ⟨Nat.le_refl _, h, Nat.le_refl _, fun k _ _ => by omega, fun k _ _ => by omega⟩

theorem Cut.up {p : Nat → Prop} {lo0 hi0 lo hi c : Nat} (h : Cut p lo0 hi0 lo hi) (h1 : lo ≤ c) (h2 : c < hi) (hp : p c) (hmono : ∀ i j, lo0 ≤ i → i < j → j < hi0 → p j → p i) : Cut p lo0 hi0 (c + 1) hi := by
  obtain ⟨a, b, c', d, e⟩ := h
  refine ⟨by omega, by omega, c', fun k k1 k2 => ?_, e⟩
  by_cases hk : k = c
  · subst hk; exact hp
  · exact hmono k c k1 (by omega) (by omega) hp

theorem Cut.down {p : Nat → Prop} {lo0 hi0 lo hi c : Nat} (h : Cut p lo0 hi0 lo hi) (h1 : lo ≤ c) (h2 : c < hi) (hp : ¬ p c) (hmono : ∀ i j, lo0 ≤ i → i < j → j < hi0 → p j → p i) : Cut p lo0 hi0 lo c := by
  obtain ⟨a, b, c', d, e⟩ := h
  refine ⟨a, h1, by omega, d, fun k k1 k2 => ?_⟩
  by_cases hk : k = c
  · subst hk; exact hp
  · exact fun h => hp (hmono c k (by omega) (by omega) k2 h)

end Go.Proofs.Ytghmjconljdapaa
