/- Put, as a whole. -/
import Derived.Test.YtbocdopjikkomaaD
namespace Go.Proofs.Ytbocdopjikkomaa
open Go.RowKit

/-- Is there a node of that key and number, behind those that are ahead? -/
def twiceB (k : ByteArray) (s : Int) : List Nd → Bool
  | [] => false
  | m :: _ => (m.k.toList == k.toList) && (m.s == s)

/-- What Put answers. -/
def putRes (ns : List Nd) (k : ByteArray) (s : Int) (d : Bool) (v : ByteArray) (ht : Int) : Int :=
  if mayB k s d v = false then 2 else if ht < 1 ∨ 8 < ht then 1 else if twiceB k s (postOf k s ns) = true then 11 else 0

/-- What Put leaves. -/
def putL (b : Nat) (ns : List Nd) (k : ByteArray) (s : Int) (d : Bool) (v : ByteArray) (ht : Int) : List Nd :=
  if putRes ns k s d v ht = 0 then preOf k s ns ++ ⟨b, k, s, d, v, ht.toNat⟩ :: postOf k s ns else ns

theorem fresh_of {k : ByteArray} {s : Int} {C : List Nd} (h : twiceB k s C = false) : Fresh k s C := by
  cases C with
  | nil => trivial
  | cons m C =>
    intro hc
    simp [twiceB, hc.1, hc.2] at h

/-- The list with the new node is in order. -/
theorem Wf.insert {ns : List Nd} (h : Wf ns) (b : Nat) {k : ByteArray} {s : Int} {d : Bool} {v : ByteArray} {ht : Nat} (hm : mayB k s d v = true) (h1 : 1 ≤ ht) (h2 : ht ≤ 8) (hf : Fresh k s (postOf k s ns)) (hl : ns.length + 1 ≤ 100000) :
    Wf (preOf k s ns ++ ⟨b, k, s, d, v, ht⟩ :: postOf k s ns) := by
  have hp := pre_post k s ns
  have ho := h.order
  rw [← hp, List.pairwise_append] at ho
  have hbeh : ∀ n ∈ postOf k s ns, aheadB k s n.k n.s = true := by
    intro n hn
    have hnb : aheadB n.k n.s k s = false := post_behind h.order hn
    rcases ahead_total k s n.k n.s with e | ⟨e1, e2⟩ | e
    · exact e
    · exfalso
      cases hC : postOf k s ns with
      | nil => rw [hC] at hn; cases hn
      | cons m C =>
        rw [hC] at hn hf
        rcases List.mem_cons.1 hn with rfl | hn'
        · exact hf ⟨e1.symm, e2.symm⟩
        · have ho' := ho.2.1
          rw [hC, List.pairwise_cons] at ho'
          have h3 := ho'.1 n hn'
          have hmb : aheadB m.k m.s k s = false := post_behind h.order (by rw [hC]; simp)
          rw [ahead_iff, ← e1, ← e2, ← ahead_iff, hmb] at h3
          cases h3
    · rw [hnb] at e; cases e
  constructor
  · intro n hn
    simp only [List.mem_append, List.mem_cons] at hn
    rcases hn with hn | rfl | hn
    · exact h.may n (mem_pre hn)
    · exact hm
    · exact h.may n (mem_post hn)
  · intro n hn
    simp only [List.mem_append, List.mem_cons] at hn
    rcases hn with hn | rfl | hn
    · exact h.low n (mem_pre hn)
    · exact ⟨h1, h2⟩
    · exact h.low n (mem_post hn)
  · rw [List.pairwise_append, List.pairwise_cons]
    refine ⟨ho.1, ⟨hbeh, ho.2.1⟩, ?_⟩
    intro a ha c hc
    rcases List.mem_cons.1 hc with rfl | hc
    · exact pre_ahead ha
    · exact ho.2.2 a ha c hc
  · have := congrArg List.length hp
    simp only [List.length_append, List.length_cons] at this ⊢
    omega

def PutAll (w : World) (tb : Nat) (ns : List Nd) (k : ByteArray) (s : Int) (d : Bool) (v : ByteArray) (ht : Int) (e : Ending) (w' : World) : Prop :=
  e = .returned (.int .i64 (putRes ns k s d v ht)) ∧ ∃ b, w.heap.size ≤ b ∧ Tab tb (putL b ns k s d v ht) w' ∧ Wf (putL b ns k s d v ht) ∧ Only tb ns w w'

theorem put_wf (tb : Nat) (ns : List Nd) (k : ByteArray) (s : Int) (d : Bool) (v : ByteArray) (ht : Int) (w : World) (h : Tab tb ns w) (hw : Wf ns) (hl : ns.length + 1 ≤ 100000) :
    Calls Try.prog 13 #[.pointer (some ⟨tb, 0, none⟩), .agg #[.string k, .int .u64 s, .bool d, .string v], .int .i64 ht] w (PutAll w tb ns k s d v ht) := by
  by_cases hm : mayB k s d v = false
  · have e1 : putRes ns k s d v ht = 2 := by rw [putRes, if_pos hm]
    have e2 : putL w.heap.size ns k s d v ht = ns := by rw [putL, e1, if_neg (by decide)]
    refine (put_form tb k s d v ht w hm).mono ?_
    rintro e w' ⟨rfl, hb⟩
    exact ⟨by rw [e1], w.heap.size, Nat.le_refl _, by rw [e2]; exact h.below hb, by rw [e2]; exact hw, Only.of_below hb⟩
  · have hm' : mayB k s d v = true := by simpa using hm
    by_cases hh : ht < 1 ∨ 8 < ht
    · have e1 : putRes ns k s d v ht = 1 := by rw [putRes, if_neg hm, if_pos hh]
      have e2 : putL w.heap.size ns k s d v ht = ns := by rw [putL, e1, if_neg (by decide)]
      refine (put_arg tb k s d v ht w hm' hh).mono ?_
      rintro e w' ⟨rfl, hb⟩
      exact ⟨by rw [e1], w.heap.size, Nat.le_refl _, by rw [e2]; exact h.below hb, by rw [e2]; exact hw, Only.of_below hb⟩
    · have hp := hw.parts k s
      have hpp := pre_post k s ns
      by_cases ht2 : twiceB k s (postOf k s ns) = true
      · have e1 : putRes ns k s d v ht = 11 := by rw [putRes, if_neg hm, if_neg hh, if_pos ht2]
        have e2 : putL w.heap.size ns k s d v ht = ns := by rw [putL, e1, if_neg (by decide)]
        cases hC : postOf k s ns with
        | nil => rw [hC] at ht2; cases ht2
        | cons m C =>
          rw [hC] at ht2 hp hpp
          simp only [twiceB, Bool.and_eq_true, beq_iff_eq] at ht2
          refine (put_twice tb (preOf k s ns) C m k s d v ht w hm' (by omega) (by omega) (by rw [hpp]; exact h) hp ht2.1 ht2.2).mono ?_
          rintro e w' ⟨rfl, hb⟩
          exact ⟨by rw [e1], w.heap.size, Nat.le_refl _, by rw [e2]; exact h.below hb, by rw [e2]; exact hw, Only.of_below hb⟩
      · have e1 : putRes ns k s d v ht = 0 := by rw [putRes, if_neg hm, if_neg hh, if_neg ht2]
        have hf := fresh_of (by simpa using ht2 : twiceB k s (postOf k s ns) = false)
        have ha := put_ok tb (preOf k s ns) (postOf k s ns) k s d v ht.toNat w hm' (by omega) (by omega) (by rw [hpp]; exact h) (by rw [hpp]; exact hw) hp hf
        rw [show ((ht.toNat : Nat) : Int) = ht by omega] at ha
        refine ha.mono ?_
        rintro e w' ⟨rfl, b, hb, hT, hO⟩
        rw [hpp] at hO
        have e2 : putL b ns k s d v ht = preOf k s ns ++ ⟨b, k, s, d, v, ht.toNat⟩ :: postOf k s ns := by rw [putL, e1, if_pos rfl]
        exact ⟨by rw [e1], b, hb, by rw [e2]; exact hT, by rw [e2]; exact hw.insert b hm' (by omega) (by omega) hf hl, hO⟩

end Go.Proofs.Ytbocdopjikkomaa
