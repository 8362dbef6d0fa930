/- What the sort does to a row of numbers: plain notions. -/
import Derived.Test.YtghmjconljdapaaN
namespace Go.Proofs.Ytghmjconljdapaa
open Go.RowKit

def swapF (d : Nat → Int) (i j : Nat) : Nat → Int := fun k => if k = i then d j else if k = j then d i else d k

/-- Of the first m numbers those from a to b may have changed places. -/
structure Moved (a b m : Nat) (d d' : Nat → Int) : Prop where
  out : ∀ k, k < a ∨ b ≤ k → d' k = d k
  src : ∀ k, a ≤ k → k < b → ∃ k', a ≤ k' ∧ k' < b ∧ d' k = d k'
  perm : ((List.range m).map d').Perm ((List.range m).map d)

theorem Moved.refl (a b m : Nat) (d : Nat → Int) : Moved a b m d d := ⟨fun _ _ => rfl, fun k h1 h2 => ⟨k, h1, h2, rfl⟩, List.Perm.refl _⟩

theorem Moved.trans {a b m : Nat} {d e f : Nat → Int} (h : Moved a b m d e) (g : Moved a b m e f) : Moved a b m d f := by
  refine ⟨fun k hk => (g.out k hk).trans (h.out k hk), fun k h1 h2 => ?_, g.perm.trans h.perm⟩
  obtain ⟨k', h3, h4, e1⟩ := g.src k h1 h2
  obtain ⟨k2, h5, h6, e2⟩ := h.src k' h3 h4
  exact ⟨k2, h5, h6, e1.trans e2⟩

theorem Moved.wide {a b a' b' m : Nat} {d e : Nat → Int} (h : Moved a b m d e) (h1 : a' ≤ a) (h2 : b ≤ b') : Moved a' b' m d e := by
  refine ⟨fun k hk => h.out k (by omega), fun k h3 h4 => ?_, h.perm⟩
  by_cases hk : a ≤ k ∧ k < b
  · obtain ⟨k', h5, h6, e1⟩ := h.src k hk.1 hk.2
    exact ⟨k', by omega, by omega, e1⟩
  · exact ⟨k, h3, h4, h.out k (by omega)⟩

theorem range_swap (m i j : Nat) (hi : i < m) (hj : j < m) : ((List.range m).map fun k => if k = i then j else if k = j then i else k).Perm (List.range m) := by
  rw [List.perm_ext_iff_of_nodup]
  · intro a
    simp only [List.mem_map, List.mem_range]
    constructor
    · rintro ⟨k, hk, rfl⟩
      split
      · exact hj
      · split
        · exact hi
        · exact hk
    · intro ha
      by_cases h1 : a = i
      · exact ⟨j, hj, by by_cases h2 : j = i <;> simp [h1, h2]⟩
      · by_cases h2 : a = j
        · exact ⟨i, hi, by simp [h2]⟩
        · exact ⟨a, ha, by simp [h1, h2]⟩
  · rw [List.nodup_iff_pairwise_ne, List.pairwise_map]
    refine List.Pairwise.imp ?_ (List.nodup_iff_pairwise_ne.1 List.nodup_range)
    intro a b hab
    split <;> split <;> (try split) <;> (try split) <;> omega
  · exact List.nodup_range

theorem Moved.swap {a b m i j : Nat} (d : Nat → Int) (hi : a ≤ i) (hi' : i < b) (hj : a ≤ j) (hj' : j < b) (hb : b ≤ m) : Moved a b m d (swapF d i j) := by
  refine ⟨fun k hk => ?_, fun k h1 h2 => ?_, ?_⟩
  · unfold swapF
    rw [if_neg (by omega), if_neg (by omega)]
  · unfold swapF
    by_cases e : k = i
    · exact ⟨j, hj, hj', by simp [e]⟩
    · by_cases e' : k = j
      · exact ⟨i, hi, hi', by rw [if_neg e, if_pos e']⟩
      · exact ⟨k, h1, h2, by simp [e, e']⟩
  · have e : (List.range m).map (swapF d i j) = ((List.range m).map fun k => if k = i then j else if k = j then i else k).map d := by
      rw [List.map_map]
      refine List.map_congr_left fun k _ => ?_
      simp only [swapF, Function.comp]
      split
      · rfl
      · split <;> rfl
    rw [e]
    exact (range_swap m i j (by omega) (by omega)).map d

/-- In order from a to b. -/
def Upto (f : Nat → Int) (a b : Nat) : Prop := ∀ i j, a ≤ i → i < j → j < b → f i ≤ f j

/-- Block db holds the numbers d, m of them. -/
def Cells (db m : Nat) (d : Nat → Int) (w : World) : Prop := 0 < m → ∃ A, Blk w db 3 A ∧ ∀ i, i < m → A[i]? = some (.int .i64 (d i))

theorem Cells.cell {db m : Nat} {d : Nat → Int} {w : World} (h : Cells db m d w) {i : Nat} (hi : i < m) : w.cell? ⟨db, i, none⟩ = some (.int .i64 (d i)) := by
  obtain ⟨A, hB, hA⟩ := h (by omega)
  exact (hB.cell i).trans (hA i hi)

theorem Cells.frozen {db m : Nat} {d : Nat → Int} {w : World} (h : Cells db m d w) (hm : 0 < m) (i : Nat) : w.frozen? ⟨db, i, none⟩ = false := by
  obtain ⟨A, hB, hA⟩ := h hm
  exact hB.frozen i

theorem Cells.drewN {db m : Nat} {d : Nat → Int} {w : World} (h : Cells db m d w) (q : Nat) : Cells db m d (w.drewN q) := h

theorem Cells.swap {db m i j : Nat} {d : Nat → Int} {w : World} (h : Cells db m d w) (hi : i < m) (hj : j < m) :
    Cells db m (swapF d i j) ((w.setCell ⟨db, i, none⟩ (.int .i64 (d j))).setCell ⟨db, j, none⟩ (.int .i64 (d i))) := by
  intro hm
  obtain ⟨A, hB, hA⟩ := h hm
  refine ⟨_, (hB.set i _).set j _, fun k hk => ?_⟩
  have hs : m ≤ A.size := by
    have := hA (m - 1) (by omega)
    have := (Array.getElem?_eq_some_iff.1 this).1
    omega
  rw [Array.getElem?_setIfInBounds, Array.getElem?_setIfInBounds, Array.size_setIfInBounds]
  unfold swapF
  by_cases e1 : k = i
  · subst e1
    by_cases e2 : j = k
    · subst e2
      rw [if_pos rfl, if_pos (by omega), if_pos rfl]
    · rw [if_neg e2, if_pos rfl, if_pos (by omega), if_pos rfl]
  · by_cases e2 : j = k
    · subst e2
      rw [if_pos rfl, if_pos (by omega), if_neg e1, if_pos rfl]
    · rw [if_neg e2, if_neg (fun h => e1 h.symm), hA k hk, if_neg e1, if_neg (fun h => e2 h.symm)]

/-- What the comparison looks at: a history that lies in w0, boxed in block lb. -/
structure Ctx (w0 : World) (ao : Option Addr) (n c lb : Nat) (xs : List Tx) : Prop where
  row : RowOf TxAt w0 ao n xs
  box : w0.cell? ⟨lb, 0, none⟩ = some (.slice ao n c)

def kap (xs : List Tx) (i : Int) : Int := match xs[i.toNat]? with | some x => x.t | none => 0

/-- The row of numbers in w; all that lay in w0 is as it was. -/
structure In (w0 : World) (n db m : Nat) (d : Nat → Int) (w : World) : Prop where
  bel : Below w0.heap.size w0 w
  far : w0.heap.size ≤ db
  cells : Cells db m d w
  rng : ∀ i, i < m → 0 ≤ d i ∧ d i < n

theorem In.drewN {w0 : World} {n db m : Nat} {d : Nat → Int} {w : World} (h : In w0 n db m d w) (q : Nat) : In w0 n db m d (w.drewN q) := ⟨below_drewN h.bel q, h.far, h.cells.drewN q, h.rng⟩

theorem In.swap {w0 : World} {n db m i j : Nat} {d : Nat → Int} {w : World} (h : In w0 n db m d w) (hi : i < m) (hj : j < m) :
    In w0 n db m (swapF d i j) ((w.setCell ⟨db, i, none⟩ (.int .i64 (d j))).setCell ⟨db, j, none⟩ (.int .i64 (d i))) := by
  refine ⟨(h.bel.setCell (by exact h.far) _).setCell (by exact h.far) _, h.far, h.cells.swap hi hj, fun k hk => ?_⟩
  unfold swapF
  split
  · exact h.rng j hj
  · split
    · exact h.rng i hi
    · exact h.rng k hk

def kd (xs : List Tx) (d : Nat → Int) : Nat → Int := fun k => kap xs (d k)

theorem kd_swap (xs : List Tx) (d : Nat → Int) (i j : Nat) : kd xs (swapF d i j) = swapF (kd xs d) i j := by
  funext k
  unfold kd swapF
  split
  · rfl
  · split <;> rfl

/-! ### Insertion -/
/-- From a to i all is in order but for what stands at j, which is not above what stands behind it. -/
def Ins (f : Nat → Int) (a i j : Nat) : Prop :=
  a ≤ j ∧ j ≤ i ∧ (∀ p q, a ≤ p → p < q → q ≤ i → p ≠ j → q ≠ j → f p ≤ f q) ∧ ∀ q, j < q → q ≤ i → f j ≤ f q

theorem Ins.start {f : Nat → Int} {a i : Nat} (h : Upto f a i) (ha : a ≤ i) : Ins f a i i :=
  ⟨ha, Nat.le_refl _, fun p q h1 h2 h3 h4 h5 => h p q h1 h2 (by omega), fun q h1 h2 => by omega⟩

theorem Ins.step {f : Nat → Int} {a i j : Nat} (h : Ins f a i j) (hj : a < j) (hlt : f j < f (j - 1)) : Ins (swapF f j (j - 1)) a i (j - 1) := by
  obtain ⟨h1, h2, h3, h4⟩ := h
  refine ⟨by omega, by omega, fun p q hp hpq hq hp1 hq1 => ?_, fun q hq1 hq2 => ?_⟩
  · unfold swapF
    rw [if_neg hp1, if_neg hq1]
    by_cases e1 : p = j
    · subst e1
      rw [if_pos rfl, if_neg (by omega)]
      exact h3 (p - 1) q (by omega) (by omega) hq (by omega) (by omega)
    · rw [if_neg e1]
      by_cases e2 : q = j
      · subst e2
        rw [if_pos rfl]
        exact h3 p (q - 1) hp (by omega) (by omega) e1 (by omega)
      · rw [if_neg e2]
        exact h3 p q hp hpq hq e1 e2
  · unfold swapF
    rw [if_neg (by omega : ¬ j - 1 = j), if_pos rfl, if_neg (by omega : ¬ q = j - 1)]
    by_cases e : q = j
    · rw [if_pos e]
      omega
    · rw [if_neg e]
      exact h4 q (by omega) hq2

theorem Ins.stop {f : Nat → Int} {a i j : Nat} (h : Ins f a i j) (hs : j = a ∨ ¬ f j < f (j - 1)) : Upto f a (i + 1) := by
  obtain ⟨h1, h2, h3, h4⟩ := h
  intro p q hp hpq hq
  by_cases e1 : p = j
  · subst e1
    exact h4 q hpq (by omega)
  · by_cases e2 : q = j
    · subst e2
      rcases hs with hs | hs
      · omega
      · by_cases e3 : p = q - 1
        · subst e3; omega
        · have := h3 p (q - 1) hp (by omega) (by omega) e1 (by omega)
          omega
    · exact h3 p q hp hpq (by omega) e1 e2

end Go.Proofs.Ytghmjconljdapaa
