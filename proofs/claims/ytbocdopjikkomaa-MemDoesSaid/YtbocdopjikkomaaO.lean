/- The order of entries; what a search finds. No program in sight. -/
import Derived.Test.YtbocdopjikkomaaP
import Derived.Laws.Strings
namespace Go.Proofs.Ytbocdopjikkomaa
open Go.RowKit

def mayB (k : ByteArray) (s : Int) (d : Bool) (v : ByteArray) : Bool :=
  !decide (k.toList = []) && decide ((k.size : Int) ≤ 100) && decide ((v.size : Int) ≤ 100) && (!d || decide (v.toList = [])) && decide (0 < s) && decide (s ≤ 1099511627776)
def largeB (k v : ByteArray) : Bool := decide (300 < (k.size : Int)) || decide (300 < (v.size : Int))

/-- What a search needs: the nodes ahead, the others. -/
structure Parts (key : ByteArray) (seq : Int) (A C : List Nd) : Prop where
  low : ∀ n ∈ A, n.h ≤ 8
  len : A.length ≤ 100000
  ahd : ∀ n ∈ A, aheadB n.k n.s key seq = true
  beh : ∀ n ∈ C, aheadB n.k n.s key seq = false
  pos : ∀ n ∈ C, 0 < n.h
  posA : ∀ n ∈ A, 0 < n.h


theorem bl_irrefl : ∀ a : List UInt8, Op.bytesLess a a = false
  | [] => rfl
  | x :: r => by simp [Op.bytesLess, bl_irrefl r]

theorem bl_nil (a : List UInt8) : Op.bytesLess a [] = false := by cases a <;> rfl

theorem bl_trans : ∀ {a b c : List UInt8}, Op.bytesLess a b = true → Op.bytesLess b c = true → Op.bytesLess a c = true
  | _, [], _, h, _ => by rw [bl_nil] at h; cases h
  | _, _ :: _, [], _, h => by rw [bl_nil] at h; cases h
  | [], _ :: _, _ :: _, _, _ => rfl
  | x :: a, y :: b, z :: c, h1, h2 => by
    simp only [Op.bytesLess, Bool.or_eq_true, decide_eq_true_eq, Bool.and_eq_true, beq_iff_eq] at h1 h2 ⊢
    rcases h1 with h1 | ⟨rfl, h1⟩
    · rcases h2 with h2 | ⟨rfl, h2⟩
      · exact .inl (UInt8.lt_trans h1 h2)
      · exact .inl h1
    · rcases h2 with h2 | ⟨rfl, h2⟩
      · exact .inl h2
      · exact .inr ⟨rfl, bl_trans h1 h2⟩

theorem bl_total : ∀ a b : List UInt8, Op.bytesLess a b = true ∨ a = b ∨ Op.bytesLess b a = true
  | [], [] => .inr (.inl rfl)
  | [], _ :: _ => .inl rfl
  | _ :: _, [] => .inr (.inr rfl)
  | x :: a, y :: b => by
    simp only [Op.bytesLess, Bool.or_eq_true, decide_eq_true_eq, Bool.and_eq_true, beq_iff_eq, List.cons.injEq]
    by_cases h : x = y
    · subst h
      rcases bl_total a b with h | rfl | h
      · exact .inl (.inr ⟨rfl, h⟩)
      · exact .inr (.inl ⟨rfl, rfl⟩)
      · exact .inr (.inr (.inr ⟨rfl, h⟩))
    · have : x < y ∨ y < x := by
        have h' : x.toNat ≠ y.toNat := fun e => h (UInt8.toNat_inj.1 e)
        simp only [UInt8.lt_iff_toNat_lt]
        omega
      rcases this with h | h
      · exact .inl (.inl h)
      · exact .inr (.inr (.inl h))

theorem bl_asymm {a b : List UInt8} (h : Op.bytesLess a b = true) : Op.bytesLess b a = false := by
  cases e : Op.bytesLess b a with
  | false => rfl
  | true => have := bl_trans h e; rw [bl_irrefl] at this; cases this

theorem ahead_iff (k : ByteArray) (s : Int) (key : ByteArray) (seq : Int) :
    aheadB k s key seq = true ↔ Op.bytesLess k.toList key.toList = true ∨ (k.toList = key.toList ∧ seq < s) := by
  simp [aheadB]

theorem ahead_trans {a b c : ByteArray} {x y z : Int} (h1 : aheadB a x b y = true) (h2 : aheadB b y c z = true) : aheadB a x c z = true := by
  rw [ahead_iff] at *
  rcases h1 with h1 | ⟨e1, h1⟩
  · rcases h2 with h2 | ⟨e2, h2⟩
    · exact .inl (bl_trans h1 h2)
    · exact .inl (by rw [← e2]; exact h1)
  · rcases h2 with h2 | ⟨e2, h2⟩
    · exact .inl (by rw [e1]; exact h2)
    · exact .inr ⟨e1.trans e2, by omega⟩

theorem ahead_irrefl (a : ByteArray) (x : Int) : aheadB a x a x = false := by
  cases e : aheadB a x a x with
  | false => rfl
  | true =>
    rw [ahead_iff, bl_irrefl] at e
    rcases e with e | ⟨_, e⟩
    · cases e
    · omega

theorem ahead_total (a : ByteArray) (x : Int) (b : ByteArray) (y : Int) : aheadB a x b y = true ∨ (a.toList = b.toList ∧ x = y) ∨ aheadB b y a x = true := by
  rw [ahead_iff, ahead_iff]
  rcases bl_total a.toList b.toList with h | h | h
  · exact .inl (.inl h)
  · rcases Int.lt_trichotomy x y with h' | h' | h'
    · exact .inr (.inr (.inr ⟨h.symm, h'⟩))
    · exact .inr (.inl ⟨h, h'⟩)
    · exact .inl (.inr ⟨h, h'⟩)
  · exact .inr (.inr (.inl h))

theorem toList_inj {a b : ByteArray} (h : a.toList = b.toList) : a = b := by
  rw [Go.ByteArray.toList_eq, Go.ByteArray.toList_eq] at h
  cases a with
  | mk a =>
    cases b with
    | mk b =>
      simp only at h
      rw [Array.toList_inj] at h
      rw [h]

/-- A table's nodes as they may be: in order, of entries and heights that may be. -/
structure Wf (ns : List Nd) : Prop where
  may : ∀ n ∈ ns, mayB n.k n.s n.d n.v = true
  low : ∀ n ∈ ns, 1 ≤ n.h ∧ n.h ≤ 8
  order : ns.Pairwise fun a b => aheadB a.k a.s b.k b.s = true
  len : ns.length ≤ 100000

def preOf (key : ByteArray) (seq : Int) (ns : List Nd) : List Nd := ns.takeWhile fun n => aheadB n.k n.s key seq
def postOf (key : ByteArray) (seq : Int) (ns : List Nd) : List Nd := ns.dropWhile fun n => aheadB n.k n.s key seq

theorem pre_post (key : ByteArray) (seq : Int) (ns : List Nd) : preOf key seq ns ++ postOf key seq ns = ns := List.takeWhile_append_dropWhile

theorem mem_pre {key : ByteArray} {seq : Int} {ns : List Nd} {n : Nd} (h : n ∈ preOf key seq ns) : n ∈ ns := by
  rw [← pre_post key seq ns]; exact List.mem_append_left _ h
theorem mem_post {key : ByteArray} {seq : Int} {ns : List Nd} {n : Nd} (h : n ∈ postOf key seq ns) : n ∈ ns := by
  rw [← pre_post key seq ns]; exact List.mem_append_right _ h

theorem pre_ahead {key : ByteArray} {seq : Int} : ∀ {ns : List Nd} {n : Nd}, n ∈ preOf key seq ns → aheadB n.k n.s key seq = true
  | [], _, h => by simp [preOf] at h
  | m :: r, n, h => by
    unfold preOf at h
    rw [List.takeWhile_cons] at h
    split at h
    · rename_i hm
      rcases List.mem_cons.1 h with rfl | h
      · exact hm
      · exact pre_ahead (ns := r) h
    · simp at h

theorem post_behind {key : ByteArray} {seq : Int} : ∀ {ns : List Nd} {n : Nd}, ns.Pairwise (fun a b => aheadB a.k a.s b.k b.s = true) → n ∈ postOf key seq ns → aheadB n.k n.s key seq = false
  | [], _, _, h => by simp [postOf] at h
  | m :: r, n, ho, h => by
    unfold postOf at h
    rw [List.dropWhile_cons] at h
    rw [List.pairwise_cons] at ho
    split at h
    · exact post_behind (ns := r) ho.2 h
    · rename_i hm
      rcases List.mem_cons.1 h with rfl | h
      · simpa using hm
      · cases e : aheadB n.k n.s key seq with
        | false => rfl
        | true => exact absurd (ahead_trans (ho.1 n h) e) hm

theorem Wf.parts {ns : List Nd} (h : Wf ns) (key : ByteArray) (seq : Int) : Parts key seq (preOf key seq ns) (postOf key seq ns) where
  low := fun n hn => (h.low n (mem_pre hn)).2
  len := by
    have := congrArg List.length (pre_post key seq ns)
    rw [List.length_append] at this
    have := h.len
    omega
  ahd := fun _ hn => pre_ahead hn
  beh := fun _ hn => post_behind h.order hn
  pos := fun n hn => (h.low n (mem_post hn)).1
  posA := fun n hn => (h.low n (mem_pre hn)).1

theorem may_parts {k : ByteArray} {s : Int} {d : Bool} {v : ByteArray} (h : mayB k s d v = true) :
    k.toList ≠ [] ∧ k.size ≤ 100 ∧ v.size ≤ 100 ∧ (d = true → v.toList = []) ∧ 0 < s ∧ s ≤ 1099511627776 := by
  simp only [mayB, Bool.and_eq_true, Bool.not_eq_true', decide_eq_false_iff_not, decide_eq_true_eq, Bool.or_eq_true] at h
  obtain ⟨⟨⟨⟨⟨h1, h2⟩, h3⟩, h4⟩, h5⟩, h6⟩ := h
  exact ⟨h1, by omega, by omega, fun hd => by simpa [hd] using h4, h5, h6⟩

/-- Nothing is ahead of the empty key. -/
theorem post_all {ns : List Nd} (h : Wf ns) {key : ByteArray} (hk : key.toList = []) {seq : Int} (hs : 1099511627776 ≤ seq) : preOf key seq ns = [] ∧ postOf key seq ns = ns := by
  have h0 : ∀ n ∈ ns, aheadB n.k n.s key seq = false := by
    intro n hn
    obtain ⟨_, _, _, _, _, h6⟩ := may_parts (h.may n hn)
    cases e : aheadB n.k n.s key seq with
    | false => rfl
    | true =>
      rw [ahead_iff, hk, bl_nil] at e
      rcases e with e | ⟨_, e⟩
      · cases e
      · omega
  have h1 : preOf key seq ns = [] := by
    cases hp : preOf key seq ns with
    | nil => rfl
    | cons a l =>
      have ha : a ∈ preOf key seq ns := by rw [hp]; simp
      have := pre_ahead ha
      rw [h0 a (mem_pre ha)] at this
      cases this
  exact ⟨h1, by have := pre_post key seq ns; rwa [h1, List.nil_append] at this⟩

end Go.Proofs.Ytbocdopjikkomaa
