/- What is got, in one form; the first entry of a key up to a number. -/
import Derived.Test.YtbocdopjikkomaaF
namespace Go.Proofs.Ytbocdopjikkomaa
open Go.RowKit

def gk : Option Nd → ByteArray | none => { data := #[] } | some m => m.k
def gs : Option Nd → Int | none => 0 | some m => m.s
def gd : Option Nd → Bool | none => false | some m => m.d
def gv : Option Nd → ByteArray | none => { data := #[] } | some m => m.v

theorem get_one (tb : Nat) (ns : List Nd) (key : ByteArray) (seq : Int) (w : World) (h : Tab tb ns w) (hw : Wf ns) :
    Calls Try.prog 15 #[.pointer (some ⟨tb, 0, none⟩), .string key, .int .u64 seq] w fun e w' =>
      e = .returned (.tuple #[.agg #[.string (gk (gotOf key (postOf key seq ns))), .int .u64 (gs (gotOf key (postOf key seq ns))), .bool (gd (gotOf key (postOf key seq ns))), .string (gv (gotOf key (postOf key seq ns)))],
        .bool (gotOf key (postOf key seq ns)).isSome]) ∧ Below w.heap.size w w' := by
  refine (get_wf tb ns key seq w h hw).mono ?_
  intro e w' hp
  cases ho : gotOf key (postOf key seq ns) with
  | none => rw [ho] at hp; exact hp
  | some m => rw [ho] at hp; exact hp

/-- Is the entry of that key, and its number at most that one? -/
def hitB (key : ByteArray) (seq : Int) (m : Nd) : Bool := (m.k.toList == key.toList) && decide (m.s ≤ seq)

def findM (key : ByteArray) (seq : Int) (ns : List Nd) : Option Nd := ns.find? (hitB key seq)

theorem hit_not_ahead {key : ByteArray} {seq : Int} {m : Nd} (h : aheadB m.k m.s key seq = true) : hitB key seq m = false := by
  rw [ahead_iff] at h
  cases e : hitB key seq m with
  | false => rfl
  | true =>
    simp only [hitB, Bool.and_eq_true, beq_iff_eq, decide_eq_true_eq] at e
    rcases h with h | ⟨_, h⟩
    · rw [e.1, bl_irrefl] at h; cases h
    · omega

theorem got_find {ns : List Nd} (h : Wf ns) (key : ByteArray) (seq : Int) : gotOf key (postOf key seq ns) = findM key seq ns := by
  have hpp := pre_post key seq ns
  have h1 : findM key seq ns = findM key seq (postOf key seq ns) := by
    conv => lhs; rw [← hpp]
    unfold findM
    rw [List.find?_append, List.find?_eq_none.2 (fun m hm => by rw [hit_not_ahead (pre_ahead hm)]; simp)]
    rfl
  rw [h1]
  have ho := h.order
  rw [← hpp, List.pairwise_append] at ho
  cases hC : postOf key seq ns with
  | nil => rfl
  | cons m C =>
    have hm : aheadB m.k m.s key seq = false := post_behind h.order (by rw [hC]; simp)
    have hm' : ¬ (Op.bytesLess m.k.toList key.toList = true ∨ (m.k.toList = key.toList ∧ seq < m.s)) := by
      rw [← ahead_iff, hm]; simp
    by_cases hk : m.k.toList = key.toList
    · have hs : m.s ≤ seq := by
        rcases Int.lt_or_le seq m.s with hl | hl
        · exact absurd (.inr ⟨hk, hl⟩) hm'
        · exact hl
      simp [gotOf, findM, hitB, hk, hs]
    · have hlt : Op.bytesLess key.toList m.k.toList = true := by
        rcases bl_total m.k.toList key.toList with e | e | e
        · exact absurd (.inl e) hm'
        · exact absurd e hk
        · exact e
      have hall : ∀ x ∈ m :: C, hitB key seq x = false := by
        intro x hx
        have hx1 : Op.bytesLess key.toList x.k.toList = true := by
          rcases List.mem_cons.1 hx with rfl | hx
          · exact hlt
          · have h2 := ho.2.1
            rw [hC, List.pairwise_cons] at h2
            have h3 := h2.1 x hx
            rw [ahead_iff] at h3
            rcases h3 with h3 | ⟨h3, _⟩
            · exact bl_trans hlt h3
            · rw [← h3]; exact hlt
        have hne : ¬ x.k.toList = key.toList := fun e => by rw [e, bl_irrefl] at hx1; cases hx1
        simp [hitB, hne]
      rw [gotOf_no hk]
      unfold findM
      rw [List.find?_eq_none.2 (fun x hx => by rw [hall x hx]; simp)]

/-- One element more. -/
theorem findM_snoc {ns : List Nd} {key : ByteArray} {seq : Int} {n : Nat} {m : Nd} (hn : ns[n]? = some m) :
    findM key seq (ns.take (n + 1)) = if hitB key seq m = true ∧ (findM key seq (ns.take n)).isNone then some m else findM key seq (ns.take n) := by
  have hlt := (List.getElem?_eq_some_iff.1 hn).1
  have e : ns.take (n + 1) = ns.take n ++ [m] := by
    rw [List.take_succ_eq_append_getElem hlt, (List.getElem?_eq_some_iff.1 hn).2]
  rw [e]
  unfold findM
  rw [List.find?_append]
  cases List.find? (hitB key seq) (ns.take n) with
  | some a => simp
  | none =>
    by_cases hh : hitB key seq m = true
    · simp [hh]
    · have : hitB key seq m = false := by simpa using hh
      simp [this]

/-- What was found first is the newest. -/
theorem find_newer {ns : List Nd} (h : Wf ns) {key : ByteArray} {seq : Int} {n : Nat} {m a : Nd} (hn : ns[n]? = some m) (ha : findM key seq (ns.take n) = some a) (hh : hitB key seq m = true) : m.s < a.s := by
  have hmem : a ∈ ns.take n := List.mem_of_find?_eq_some ha
  have hhit : hitB key seq a = true := List.find?_some ha
  have hlt := (List.getElem?_eq_some_iff.1 hn).1
  have ho := h.order
  rw [← List.take_append_drop n ns, List.pairwise_append] at ho
  have hm : m ∈ ns.drop n := by
    rw [List.drop_eq_getElem_cons hlt, (List.getElem?_eq_some_iff.1 hn).2]; simp
  have := ho.2.2 a hmem m hm
  simp only [hitB, Bool.and_eq_true, beq_iff_eq, decide_eq_true_eq] at hh hhit
  rw [ahead_iff, hhit.1, hh.1, bl_irrefl] at this
  rcases this with e | ⟨_, e⟩
  · cases e
  · exact e

theorem entsC_at {ns : List Nd} {i : Nat} {m : Nd} (h : ns[i]? = some m) : (entsC ns)[i * 4]? = some (.string m.k) ∧ (entsC ns)[i * 4 + 1]? = some (.int .u64 m.s) ∧ (entsC ns)[i * 4 + 2]? = some (.bool m.d) ∧ (entsC ns)[i * 4 + 3]? = some (.string m.v) := by
  induction ns generalizing i with
  | nil => simp at h
  | cons a r ih =>
    cases i with
    | zero =>
      simp only [List.getElem?_cons_zero, Option.some.injEq] at h
      subst h
      exact ⟨rfl, rfl, rfl, rfl⟩
    | succ i =>
      rw [List.getElem?_cons_succ] at h
      obtain ⟨h0, h1, h2, h3⟩ := ih h
      have e : ∀ j, (entsC (a :: r))[(i + 1) * 4 + j]? = (entsC r)[i * 4 + j]? := by
        intro j
        show (entC a ++ entsC r)[(i + 1) * 4 + j]? = _
        rw [List.getElem?_append_right (by simp [entC]; omega)]
        congr 1
        simp only [entC, List.length_cons, List.length_nil]
        omega
      exact ⟨(e 0).trans h0, (e 1).trans h1, (e 2).trans h2, (e 3).trans h3⟩

end Go.Proofs.Ytbocdopjikkomaa
