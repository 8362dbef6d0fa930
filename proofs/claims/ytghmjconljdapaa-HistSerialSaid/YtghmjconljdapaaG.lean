/- What is wrong with a history: the plain notions. -/
import Derived.Test.YtghmjconljdapaaF
namespace Go.Proofs.Ytghmjconljdapaa

/-- The first that a test finds, the place being told to the test. -/
def scan {α β : Type} (f : Nat → α → Option β) (l : List α) : Option β := l.zipIdx.findSome? fun p => f p.2 p.1

theorem scan_none {α β : Type} {f : Nat → α → Option β} {l : List α} : scan f l = none ↔ ∀ i x, l[i]? = some x → f i x = none := by
  unfold scan
  rw [List.findSome?_eq_none_iff]
  constructor
  · intro h i x hx
    exact h (x, i) (by rw [List.mem_zipIdx_iff_getElem?]; exact hx)
  · intro h p hp
    rw [List.mem_zipIdx_iff_getElem?] at hp
    exact h _ _ hp

theorem scan_some {α β : Type} {f : Nat → α → Option β} {l : List α} {i : Nat} {x : α} {v : β} (hx : l[i]? = some x) (hv : f i x = some v) (h : ∀ j y, j < i → l[j]? = some y → f j y = none) : scan f l = some v := by
  unfold scan
  rw [List.findSome?_eq_some_iff]
  have hlt := (List.getElem?_eq_some_iff.1 hx)
  refine ⟨l.zipIdx.take i, (x, i), l.zipIdx.drop (i + 1), ?_, hv, fun p hp => ?_⟩
  · have e : l.zipIdx[i]? = some (x, i) := by rw [List.getElem?_zipIdx, hx]; simp
    have hl := (List.getElem?_eq_some_iff.1 e)
    conv => lhs; rw [← List.take_append_drop i l.zipIdx]
    rw [List.drop_eq_getElem_cons hl.1, hl.2]
  · rw [List.mem_take_iff_getElem] at hp
    obtain ⟨j, hj, e⟩ := hp
    rw [List.getElem_zipIdx] at e
    subst e
    simp only [List.length_zipIdx] at hj
    exact h _ _ (by simp; omega) (by simp)

theorem scan_of_some {α β : Type} {f : Nat → α → Option β} {l : List α} {v : β} (h : scan f l = some v) : ∃ i x, l[i]? = some x ∧ f i x = some v ∧ ∀ j y, j < i → l[j]? = some y → f j y = none := by
  unfold scan at h
  rw [List.findSome?_eq_some_iff] at h
  obtain ⟨l1, p, l2, he, hv, h1⟩ := h
  have hp : l.zipIdx[l1.length]? = some p := by rw [he]; simp
  rw [List.getElem?_zipIdx] at hp
  obtain ⟨x, hx, rfl⟩ := Option.map_eq_some_iff.1 hp
  simp only [Nat.zero_add] at hv
  refine ⟨l1.length, x, hx, hv, fun j y hj hy => ?_⟩
  refine h1 (y, j) ?_
  have hq : l.zipIdx[j]? = some (y, j) := by rw [List.getElem?_zipIdx, hy]; simp
  rw [he, List.getElem?_append_left hj] at hq
  exact List.mem_of_getElem? hq

/-- What is wrong. -/
structure Flt where
  kind : Int
  first : Int
  second : Int
  key : ByteArray

def noFlt : Flt := ⟨0, 0, 0, { data := #[] }⟩

/-- Is the read of another value than that of its time? -/
def badR (l : List Tx) (x : Tx) (r : Rd) : Bool :=
  ((valueOf l r.k x.s).isSome != r.i) || ((valueOf l r.k x.s).isSome && !(((valueOf l r.k x.s).getD { data := #[] }).toList == r.v.toList))

def staleR (l : List Tx) (i : Nat) (x : Tx) (r : Rd) : Option Flt := if badR l x r then some ⟨1, i, 0, r.k⟩ else none
def staleT (l : List Tx) (i : Nat) (x : Tx) : Option Flt := if x.t = 0 then none else scan (fun _ r => staleR l i x r) x.rs
/-- The first read that isn't of its time. -/
def staleOf (l : List Tx) : Option Flt := scan (staleT l) l

def lostM (i j : Nat) (y : Tx) (m : Mt) : Option Flt := if (wroteOf m.k y.ws).isSome then some ⟨2, i, j, m.k⟩ else none
def lostJ (i : Nat) (x : Tx) (j : Nat) (y : Tx) : Option Flt := if y.t ≤ x.s ∨ x.t ≤ y.t then none else scan (fun _ m => lostM i j y m) x.ws
def lostI (l : List Tx) (i : Nat) (x : Tx) : Option Flt := scan (lostJ i x) l
/-- The first two that wrote the same key without having seen each other. -/
def lostOf (l : List Tx) : Option Flt := scan (lostI l) l

/-- What Look tells. -/
def faultOf (l : List Tx) : Flt := if mayL l then ((staleOf l).or (lostOf l)).getD noFlt else noFlt
def errOf (l : List Tx) : Int := if mayL l then 0 else 2

end Go.Proofs.Ytghmjconljdapaa
