/- Maps: a key struck. -/
import Derived.Test.YtghmjconljdapaaE
namespace Go.Proofs.Ytghmjconljdapaa
open Go.RowKit

section
variable {α : Type} [DecidableEq α]

def mdel (x : α) (l : List (α × Value)) : List (α × Value) :=
  match locate x l 0 with
  | some (i, _) => l.eraseIdx i
  | none => l

theorem mdel_cons (x y : α) (u : Value) (r : List (α × Value)) : mdel x ((y, u) :: r) = if x = y then r else (y, u) :: mdel x r := by
  unfold mdel
  rw [locate]
  by_cases h : x = y
  · simp [h]
  · simp only [h, if_false]
    rw [locate_shift]
    cases locate x r 0 with
    | none => rfl
    | some p => rfl

/-- No key stands twice. -/
def Keys1 (l : List (α × Value)) : Prop := (l.map (·.1)).Nodup

theorem mget_none_iff (x : α) : ∀ l : List (α × Value), mget x l = none ↔ x ∉ l.map (·.1) := by
  intro l
  induction l with
  | nil => simp [mget_nil]
  | cons a l ih =>
    obtain ⟨y, v⟩ := a
    rw [mget_cons, List.map_cons, List.mem_cons, not_or]
    by_cases h : x = y
    · simp [h]
    · rw [if_neg h, ih]
      simp [h]

theorem mget_mdel (x y : α) : ∀ {l : List (α × Value)}, Keys1 l → mget y (mdel x l) = if y = x then none else mget y l := by
  intro l
  induction l with
  | nil => intro _; simp [mdel, locate, mget_nil]
  | cons a l ih =>
    obtain ⟨z, u⟩ := a
    intro hk
    unfold Keys1 at hk
    rw [List.map_cons, List.nodup_cons] at hk
    rw [mdel_cons]
    by_cases h : x = z
    · subst h
      rw [if_pos rfl, mget_cons]
      by_cases h1 : y = x
      · subst h1
        rw [if_pos rfl, mget_none_iff]
        exact hk.1
      · rw [if_neg h1, if_neg h1]
    · rw [if_neg h, mget_cons, mget_cons, ih hk.2]
      by_cases h1 : y = z
      · subst h1
        simp [Ne.symm h]
      · simp [h1]

theorem keys_mput (x : α) (v : Value) : ∀ {l : List (α × Value)}, Keys1 l → Keys1 (mput x v l) := by
  intro l
  have hm : ∀ (l : List (α × Value)) (y : α), y ∈ (mput x v l).map (·.1) ↔ y = x ∨ y ∈ l.map (·.1) := by
    intro l y
    have h1 := mget_none_iff y (mput x v l)
    have h2 := mget_none_iff y l
    rw [mget_mput] at h1
    by_cases h : y = x
    · subst h
      rw [if_pos rfl] at h1
      simp only [reduceCtorEq, false_iff, Decidable.not_not] at h1
      exact ⟨fun _ => .inl rfl, fun _ => h1⟩
    · rw [if_neg h, h2] at h1
      constructor
      · intro hy
        exact .inr (Decidable.byContradiction fun hn => h1.1 hn hy)
      · rintro (hy | hy)
        · exact absurd hy h
        · exact Decidable.byContradiction fun hn => h1.2 hn hy
  induction l with
  | nil => intro _; unfold Keys1; rw [mput_nil]; simp
  | cons a l ih =>
    obtain ⟨z, u⟩ := a
    intro hk
    unfold Keys1 at hk
    rw [List.map_cons, List.nodup_cons] at hk
    rw [mput_cons]
    by_cases h : x = z
    · subst h
      rw [if_pos rfl]
      unfold Keys1
      rw [List.map_cons, List.nodup_cons]
      exact hk
    · rw [if_neg h]
      unfold Keys1
      rw [List.map_cons, List.nodup_cons]
      refine ⟨fun hz => ?_, ih hk.2⟩
      rcases (hm l z).1 hz with hz | hz
      · exact h hz.symm
      · exact hk.1 hz

theorem keys_mdel (x : α) : ∀ {l : List (α × Value)}, Keys1 l → Keys1 (mdel x l) := by
  intro l hk
  unfold mdel
  cases locate x l 0 with
  | none => exact hk
  | some p =>
    unfold Keys1 at hk ⊢
    exact hk.sublist ((List.eraseIdx_sublist l p.1).map _)

variable {P : Program} {kt : TypeId} {enc : α → Value} {w w' : World} {b : Nat} {l : List (α × Value)}

theorem MapIs.delete (h : MapIs enc w b l) (K : KeyKind P kt enc) {t kt' ty e : TypeId} (ht : P.underlying t = some (.map kt e)) (x : α) :
    ∃ w', (Builtin.delete_ #[t, kt'] ty #[.map (some b), enc x]).run P w = .ok (.tuple #[]) w' ∧ MapIs enc w' b (mdel x l) ∧ w.grownBy w' (some b) := by
  obtain ⟨es, clock, hb, hl⟩ := h
  have hf := K.find x es.toList l w hl
  have hblt : b < w.heap.size := (Array.getElem?_eq_some_iff.1 hb).1
  have hset : ∀ (o : Obj), (setObj b o).run P w = .ok () { w with heap := w.heap.setIfInBounds b o } := by
    intro o
    simp [setObj, Sem.run, hb]
  have hg : ∀ (o : Obj), w.grownBy { w with heap := w.heap.setIfInBounds b o } (some b) := by
    intro o
    refine ⟨rfl, rfl, rfl, by simp, fun k _ hk => ?_⟩
    show (w.heap.setIfInBounds b o)[k]? = _
    rw [Array.getElem?_setIfInBounds, if_neg (fun e => hk (by rw [e]))]
  cases hq : locate x l 0 with
  | none =>
    rw [hq] at hf
    refine ⟨_, ?_, ⟨es, clock, ?_, ?_⟩, hg (.map es clock)⟩
    · simp [Builtin.delete_, run_underlying ht, MapKept.run_getObj_map hb, K.check x _ w, hf, hset, Result.andThen]
    · show (w.heap.setIfInBounds b _)[b]? = _
      rw [Array.getElem?_setIfInBounds, if_pos rfl, if_pos hblt]
    · simp [mdel, hq, hl]
  | some p =>
    obtain ⟨i, u⟩ := p
    rw [hq] at hf
    refine ⟨_, ?_, ⟨es.eraseIdxIfInBounds i, clock, ?_, ?_⟩, hg (.map (es.eraseIdxIfInBounds i) clock)⟩
    · simp [Builtin.delete_, run_underlying ht, MapKept.run_getObj_map hb, K.check x _ w, hf, hset, Result.andThen]
    · show (w.heap.setIfInBounds b _)[b]? = _
      rw [Array.getElem?_setIfInBounds, if_pos rfl, if_pos hblt]
    · simp only [mdel, hq]
      rw [Array.toList_eraseIdxIfInBounds, List.eraseIdx_eq_take_drop_succ, List.eraseIdx_eq_take_drop_succ, List.map_append, List.map_append, List.map_take, List.map_drop, List.map_take, List.map_drop, hl]

end
end Go.Proofs.Ytghmjconljdapaa
