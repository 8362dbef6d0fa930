/- Maps that a call makes: what they hold, said of lists of keys and values. No program in sight. -/
import Derived.WalkKit
import Derived.WideKeyElems
namespace Go.Proofs.Ytghmjconljdapaa
open Go.RowKit

section
variable {α : Type}
/-- Block b is a map with these entries. -/
def MapIs (enc : α → Value) (w : World) (b : Nat) (l : List (α × Value)) : Prop :=
  ∃ es clock, w.heap[b]? = some (.map es clock) ∧ es.toList.map (fun e => (e.key, e.val)) = l.map (fun p => (enc p.1, p.2))

variable {enc : α → Value} {w w' : World} {b : Nat} {l : List (α × Value)}

theorem MapIs.lt (h : MapIs enc w b l) : b < w.heap.size := by
  obtain ⟨es, clock, hb, _⟩ := h
  exact (Array.getElem?_eq_some_iff.1 hb).1
theorem MapIs.made (enc : α → Value) (w : World) : MapIs enc (w.alloc (.map #[] 0)) w.heap.size [] := ⟨#[], 0, (MapKept.heap_alloc w _).1, rfl⟩
theorem MapIs.same (h : MapIs enc w b l) (hb : w'.heap[b]? = w.heap[b]?) : MapIs enc w' b l := by
  obtain ⟨es, clock, he, hl⟩ := h
  exact ⟨es, clock, hb.trans he, hl⟩

variable {P : Program} {kt : TypeId}
theorem MapIs.len (h : MapIs enc w b l) {t : TypeId} (ty : TypeId) {e : TypeId} (ht : P.underlying t = some (.map kt e)) : (Builtin.len_ #[t] ty #[.map (some b)]).run P w = .ok (goInt l.length) w := by
  obtain ⟨es, clock, hb, hl⟩ := h
  have hlen : es.size = l.length := by
    have := congrArg List.length hl
    simpa using this
  simp [Builtin.len_, run_underlying ht, MapKept.run_getObj_map hb, hlen]
end

section
variable {α : Type} [DecidableEq α]

/-- Where a key stands, and its value. -/
def locate (x : α) : List (α × Value) → Nat → Option (Nat × Value)
  | [], _ => none
  | (y, v) :: r, i => if x = y then some (i, v) else locate x r (i + 1)

def mget (x : α) (l : List (α × Value)) : Option Value := (locate x l 0).map (·.2)

def mput (x : α) (v : Value) (l : List (α × Value)) : List (α × Value) :=
  match locate x l 0 with
  | some (i, _) => l.set i (x, v)
  | none => l ++ [(x, v)]

theorem locate_shift (x : α) : ∀ (l : List (α × Value)) (i : Nat), locate x l (i + 1) = (locate x l i).map fun p => (p.1 + 1, p.2)
  | [], _ => rfl
  | (y, v) :: r, i => by
    unfold locate
    split
    · rfl
    · exact locate_shift x r (i + 1)

theorem mget_nil (x : α) : mget x [] = none := rfl

theorem mget_cons (x y : α) (v : Value) (r : List (α × Value)) : mget x ((y, v) :: r) = if x = y then some v else mget x r := by
  unfold mget
  rw [locate]
  split
  · rfl
  · rw [locate_shift, Option.map_map]
    rfl

theorem mget_append (x : α) (l r : List (α × Value)) : mget x (l ++ r) = (mget x l).or (mget x r) := by
  induction l with
  | nil => simp [mget_nil]
  | cons a l ih =>
    obtain ⟨y, v⟩ := a
    rw [List.cons_append, mget_cons, mget_cons, ih]
    split <;> rfl

theorem mput_nil (x : α) (v : Value) : mput x v [] = [(x, v)] := rfl

theorem mput_cons (x y : α) (v u : Value) (r : List (α × Value)) : mput x v ((y, u) :: r) = if x = y then (x, v) :: r else (y, u) :: mput x v r := by
  unfold mput
  rw [locate]
  by_cases h : x = y
  · simp [h]
  · simp only [h, if_false]
    rw [locate_shift]
    cases locate x r 0 with
    | none => rfl
    | some p => rfl

theorem mget_mput (x y : α) (v : Value) (l : List (α × Value)) : mget y (mput x v l) = if y = x then some v else mget y l := by
  induction l with
  | nil => rw [mput_nil, mget_cons, mget_nil]
  | cons a l ih =>
    obtain ⟨z, u⟩ := a
    rw [mput_cons]
    by_cases h : x = z
    · subst h
      rw [if_pos rfl, mget_cons, mget_cons]
      split <;> rfl
    · rw [if_neg h, mget_cons, mget_cons, ih]
      by_cases h1 : y = z
      · subst h1
        simp [Ne.symm h]
      · simp [h1]

theorem length_mput (x : α) (v : Value) (l : List (α × Value)) : (mput x v l).length = if (mget x l).isSome then l.length else l.length + 1 := by
  induction l with
  | nil => rfl
  | cons a l ih =>
    obtain ⟨z, u⟩ := a
    rw [mput_cons, mget_cons]
    by_cases h : x = z
    · simp [h]
    · simp only [h, if_false, List.length_cons, ih]
      split <;> rfl

/-- A type of keys: how they stand in memory, and what the model's searches make of them. -/
structure KeyKind (P : Program) (kt : TypeId) (enc : α → Value) : Prop where
  check : ∀ (x : α) (b : Bool) (w : World), (Instr.checkKey b 10000 kt (enc x)).run P w = .ok () w
  find : ∀ (x : α) (es : List MapEntry) (l : List (α × Value)) (w : World), es.map (fun e => (e.key, e.val)) = l.map (fun p => (enc p.1, p.2)) → (Instr.findKey kt (enc x) es).run P w = .ok (locate x l 0) w
  bits : ∀ x : α, Instr.sameBits 10000 (enc x) (enc x) = true

variable {P : Program} {kt : TypeId} {enc : α → Value} {w w' : World} {b : Nat} {l : List (α × Value)}

theorem MapIs.lookup (h : MapIs enc w b l) (K : KeyKind P kt enc) {t e : TypeId} (ht : P.underlying t = some (.map kt e)) {z : Value} (hz : (zeroValue e).run P w = .ok z w) (x : α) :
    (Instr.lookup t (.map (some b)) (enc x) false).run P w = .ok ((mget x l).getD z) w := by
  obtain ⟨es, clock, hb, hl⟩ := h
  have hf := K.find x es.toList l w hl
  cases hq : locate x l 0 with
  | none =>
    rw [hq] at hf
    simp [Instr.lookup, run_underlying ht, MapKept.run_getObj_map hb, K.check x _ w, hf, hz, Result.andThen, mget, hq]
  | some p =>
    rw [hq] at hf
    simp [Instr.lookup, run_underlying ht, MapKept.run_getObj_map hb, K.check x _ w, hf, Result.andThen, mget, hq]

theorem MapIs.lookup_ok (h : MapIs enc w b l) (K : KeyKind P kt enc) {t e : TypeId} (ht : P.underlying t = some (.map kt e)) {z : Value} (hz : (zeroValue e).run P w = .ok z w) (x : α) :
    (Instr.lookup t (.map (some b)) (enc x) true).run P w = .ok (.tuple #[(mget x l).getD z, .bool (mget x l).isSome]) w := by
  obtain ⟨es, clock, hb, hl⟩ := h
  have hf := K.find x es.toList l w hl
  cases hq : locate x l 0 with
  | none =>
    rw [hq] at hf
    simp [Instr.lookup, run_underlying ht, MapKept.run_getObj_map hb, K.check x _ w, hf, hz, Result.andThen, mget, hq]
  | some p =>
    rw [hq] at hf
    simp [Instr.lookup, run_underlying ht, MapKept.run_getObj_map hb, K.check x _ w, hf, Result.andThen, mget, hq]

theorem locate_some {x : α} {l : List (α × Value)} {j i : Nat} {v : Value} (h : locate x l j = some (i, v)) : j ≤ i ∧ l[i - j]? = some (x, v) := by
  induction l generalizing j with
  | nil => simp [locate] at h
  | cons a l ih =>
    obtain ⟨y, u⟩ := a
    unfold locate at h
    split at h
    · rename_i e
      simp only [Option.some.injEq, Prod.mk.injEq] at h
      obtain ⟨rfl, rfl⟩ := h
      subst e
      simp
    · obtain ⟨h1, h2⟩ := ih h
      refine ⟨by omega, ?_⟩
      rw [show i - j = (i - (j + 1)) + 1 by omega]
      simpa using h2

theorem MapIs.update (h : MapIs enc w b l) (K : KeyKind P kt enc) {t e : TypeId} (ht : P.underlying t = some (.map kt e)) (x : α) (v : Value) :
    ∃ w', (Instr.mapUpdate t (.map (some b)) (enc x) v).run P w = .ok () w' ∧ MapIs enc w' b (mput x v l) ∧ w.grownBy w' (some b) := by
  obtain ⟨es, clock, hb, hl⟩ := h
  have hf := K.find x es.toList l w hl
  have hblt : b < w.heap.size := (Array.getElem?_eq_some_iff.1 hb).1
  have hset : ∀ (o : Obj), (setObj b o).run P w = .ok () { w with heap := w.heap.setIfInBounds b o } := by
    intro o
    simp [setObj, Sem.run, hb]
  have hg : ∀ (o : Obj), w.grownBy { w with heap := w.heap.setIfInBounds b o } (some b) := by
    intro o
    refine ⟨rfl, rfl, rfl, by simp, fun k _ hk => ?_⟩
    show (w.heap.setIfInBounds b o)[k]? = _
    rw [Array.getElem?_setIfInBounds, if_neg (fun e => hk (by rw [e]))]
  cases hq : locate x l 0 with
  | none =>
    rw [hq] at hf
    refine ⟨_, ?_, ⟨es.push { key := enc x, val := v, born := clock }, clock + 1, ?_, ?_⟩, hg (.map (es.push { key := enc x, val := v, born := clock }) (clock + 1))⟩
    · simp [Instr.mapUpdate, run_underlying ht, MapKept.run_getObj_map hb, K.check x _ w, hf, hset, Result.andThen]
    · show (w.heap.setIfInBounds b _)[b]? = _
      rw [Array.getElem?_setIfInBounds, if_pos rfl, if_pos hblt]
    · simp [mput, hq, hl]
  | some p =>
    obtain ⟨i, u⟩ := p
    rw [hq] at hf
    obtain ⟨_, hi⟩ := locate_some hq
    rw [Nat.sub_zero] at hi
    have hei : (es.toList.map (fun e => (e.key, e.val)))[i]? = some (enc x, u) := by rw [hl, List.getElem?_map, hi]; rfl
    rw [List.getElem?_map] at hei
    obtain ⟨e0, he0, hk0⟩ := Option.map_eq_some_iff.1 hei
    simp only [Prod.mk.injEq] at hk0
    have he0' : es[i]? = some e0 := by simpa using he0
    refine ⟨_, ?_, ⟨es.modify i fun e => { e with key := enc x, val := v }, clock, ?_, ?_⟩, hg (.map (es.modify i fun e => { e with key := enc x, val := v }) clock)⟩
    · simp [Instr.mapUpdate, run_underlying ht, MapKept.run_getObj_map hb, K.check x _ w, hf, hset, Result.andThen, Instr.keyThatStays, he0', hk0.1, K.bits x]
    · show (w.heap.setIfInBounds b _)[b]? = _
      rw [Array.getElem?_setIfInBounds, if_pos rfl, if_pos hblt]
    · simp only [mput, hq]
      apply List.ext_getElem?
      intro j
      rw [List.getElem?_map, Array.getElem?_toList, Array.getElem?_modify, List.getElem?_map, List.getElem?_set]
      have hj : (es.toList.map (fun e => (e.key, e.val)))[j]? = (l.map (fun p => (enc p.1, p.2)))[j]? := by rw [hl]
      rw [List.getElem?_map, List.getElem?_map, Array.getElem?_toList] at hj
      by_cases hij : i = j
      · subst hij
        have hlt : i < l.length := (List.getElem?_eq_some_iff.1 hi).1
        rw [if_pos rfl, if_pos rfl, if_pos hlt, he0']
        rfl
      · rw [if_neg hij, if_neg hij]
        exact hj

end

/-! ### Keys that are strings, integers -/
theorem find_now {α : Type} [DecidableEq α] {P : Program} {kt : TypeId} {d : TypeDesc} {enc : α → Value} (hk : P.underlying kt = some d) (hs : ∀ x y : α, Instr.sameNow d (enc x) (enc y) = some (decide (x = y))) (x : α) (es : List MapEntry) (l : List (α × Value)) (w : World)
    (hl : es.map (fun e => (e.key, e.val)) = l.map (fun p => (enc p.1, p.2))) : (Instr.findKey kt (enc x) es).run P w = .ok (locate x l 0) w := by
  have key : ∀ (es : List MapEntry) (l : List (α × Value)) (i : Nat), es.map (fun e => (e.key, e.val)) = l.map (fun p => (enc p.1, p.2)) → Instr.findNow d (enc x) es i = some (locate x l i) := by
    intro es
    induction es with
    | nil =>
      intro l i h
      cases l with
      | nil => rfl
      | cons a l => simp at h
    | cons e es ih =>
      intro l i h
      cases l with
      | nil => simp at h
      | cons a l =>
        obtain ⟨y, v⟩ := a
        simp only [List.map_cons, List.cons.injEq, Prod.mk.injEq] at h
        obtain ⟨⟨h1, h2⟩, h3⟩ := h
        unfold Instr.findNow locate
        rw [h1, hs, h2]
        by_cases hxy : x = y
        · simp [hxy]
        · simp [hxy, ih l (i + 1) h3]
  unfold Instr.findKey
  simp [run_underlying hk, key es l 0 hl]

theorem bytes_beq (a b : ByteArray) : (a == b) = decide (a = b) := by
  rw [beq_toListBytes]
  by_cases h : a = b
  · subst h; simp
  · rw [decide_eq_false h]
    cases e : a.toList == b.toList with
    | false => rfl
    | true =>
      exfalso
      have e' : a.toList = b.toList := by simpa using e
      rw [Go.ByteArray.toList_eq, Go.ByteArray.toList_eq] at e'
      obtain ⟨a⟩ := a
      obtain ⟨b⟩ := b
      simp only at e'
      rw [Array.toList_inj] at e'
      exact h (by rw [e'])

theorem check_string {P : Program} {kt : TypeId} (hk : P.underlying kt = some .string) (b : Bool) (n : Nat) (x : ByteArray) (w : World) : (Instr.checkKey b (n + 1) kt (.string x)).run P w = .ok () w := by
  simp [Instr.checkKey, run_underlying hk]
theorem check_int {P : Program} {kt : TypeId} {q : IntKind} (hk : P.underlying kt = some (.int q)) (b : Bool) (n : Nat) (x : Int) (w : World) : (Instr.checkKey b (n + 1) kt (.int q x)).run P w = .ok () w := by
  simp [Instr.checkKey, run_underlying hk]

theorem string_kind {P : Program} {kt : TypeId} (hk : P.underlying kt = some .string) : KeyKind P kt (fun s : ByteArray => Value.string s) where
  check := fun x b w => check_string hk b 9999 x w
  find := fun x es l w hl => find_now hk (fun x y => by simp only [Instr.sameNow, bytes_beq]) x es l w hl
  bits := fun x => by simp only [Instr.sameBits, bytes_beq, decide_true]

theorem int_kind {P : Program} {kt : TypeId} {q : IntKind} (hk : P.underlying kt = some (.int q)) : KeyKind P kt (fun n : Int => Value.int q n) where
  check := fun x b w => check_int hk b 9999 x w
  find := fun x es l w hl => find_now hk (fun x y => by simp [Instr.sameNow]; rfl) x es l w hl
  bits := fun x => by simp [Instr.sameBits]

end Go.Proofs.Ytghmjconljdapaa
