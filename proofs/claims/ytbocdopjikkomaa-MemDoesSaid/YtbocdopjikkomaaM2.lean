/- Maps whose keys are entries. -/
import Derived.Test.YtbocdopjikkomaaM
import Derived.Test.YtbocdopjikkomaaO
import Derived.Test.YtbocdopjikkomaaRows
namespace Go.Proofs.Ytbocdopjikkomaa
open Go.RowKit

/-- An entry as data. -/
structure En where
  k : ByteArray
  s : Int
  d : Bool
  v : ByteArray

instance : DecidableEq En := fun a b =>
  if h : a.k = b.k ∧ a.s = b.s ∧ a.d = b.d ∧ a.v = b.v then
    .isTrue (by obtain ⟨h1, h2, h3, h4⟩ := h; cases a; cases b; simp only at h1 h2 h3 h4; subst h1 h2 h3 h4; rfl)
  else .isFalse (fun e => h (by subst e; exact ⟨rfl, rfl, rfl, rfl⟩))

theorem En.eq_iff (a b : En) : a = b ↔ a.k = b.k ∧ a.s = b.s ∧ a.d = b.d ∧ a.v = b.v := by
  constructor
  · rintro rfl; exact ⟨rfl, rfl, rfl, rfl⟩
  · rintro ⟨h1, h2, h3, h4⟩; cases a; cases b; simp only at h1 h2 h3 h4; subst h1 h2 h3 h4; rfl

def encE (x : En) : Value := .agg #[.string x.k, .int .u64 x.s, .bool x.d, .string x.v]

theorem check_entry (b : Bool) (n : Nat) (x : En) (w : World) : (Instr.checkKey b (n + 2) 34 (encE x)).run Try.prog w = .ok () w := by
  have h9 : ∀ s, (Instr.checkKey b (n + 1) 9 (.string s)).run Try.prog w = .ok () w := fun s => check_string Try.underlying9 b n s w
  have h23 : ∀ s, (Instr.checkKey b (n + 1) 23 (.int .u64 s)).run Try.prog w = .ok () w := fun s => check_int Try.underlying23 b n s w
  have h4 : ∀ s, (Instr.checkKey b (n + 1) 4 (.bool s)).run Try.prog w = .ok () w := fun s => by simp [Instr.checkKey, run_underlying Try.underlying4]
  unfold Instr.checkKey encE
  simp [run_underlying Try.underlying34, go_sem, h9, h23, h4]

theorem Try.fields34 : Try.prog.underlying 34 = some (.struct (Try.prog.fieldsOf 34)) := by kernel_rfl
theorem Try.stood34 : Try.prog.stoodInHeld 34 = false := by kernel_rfl

theorem list_beq (a b : ByteArray) : (a.toList == b.toList) = decide (a = b) := by rw [← beq_toListBytes, bytes_beq]

theorem equal_entry (x y : En) (w : World) : (Op.equal 34 (encE x) (encE y)).run Try.prog w = .ok (decide (x = y)) w := by
  have h : ∀ n, (Op.equalIn (n + 2) 34 (encE x) (encE y)).run Try.prog w = .ok (decide (x = y)) w := by
    intro n
    unfold encE
    rw [run_equalIn_agg w (n + 1) 34 _ _ Try.fields34 Try.stood34]
    have e : decide (x = y) = (decide (x.k = y.k) && (decide (x.s = y.s) && (decide (x.d = y.d) && decide (x.v = y.v)))) := by
      rw [Bool.eq_iff_iff]; simp [En.eq_iff]
    rw [e]
    simp [go_sem, Program.fieldsOf, Try.underlying34, list_beq]
    by_cases h1 : x.k = y.k <;> by_cases h2 : x.s = y.s <;> by_cases h3 : x.d = y.d <;> by_cases h4 : x.v = y.v <;> simp [h1, h2, h3, h4]
  exact h 9998


theorem ask_entry (x : En) (w : World) : ∀ (es : List MapEntry) (l : List (En × Value)) (i : Nat), es.map (fun e => (e.key, e.val)) = l.map (fun p => (encE p.1, p.2)) →
    (Instr.findAsking 34 (encE x) es i).run Try.prog w = .ok (locate x l i) w := by
  intro es
  induction es with
  | nil =>
    intro l i h
    cases l with
    | nil => rfl
    | cons a l => simp at h
  | cons e es ih =>
    intro l i h
    cases l with
    | nil => simp at h
    | cons a l =>
      obtain ⟨y, v⟩ := a
      simp only [List.map_cons, List.cons.injEq, Prod.mk.injEq] at h
      obtain ⟨⟨h1, h2⟩, h3⟩ := h
      unfold Instr.findAsking locate
      rw [h1, h2]
      simp only [Sem.run_bind, equal_entry, Result.andThen_ok]
      by_cases hxy : x = y
      · simp [hxy]
      · simp [hxy, ih l (i + 1) h3]

theorem entry_kind : KeyKind Try.prog 34 encE where
  check := fun x b w => check_entry b 9998 x w
  find := fun x es l w hl => by
    unfold Instr.findKey
    simp only [Sem.run_bind, run_underlying Try.underlying34, Result.andThen_ok]
    cases es with
    | nil =>
      cases l with
      | nil => rfl
      | cons a l => simp at hl
    | cons e es =>
      cases l with
      | nil => simp at hl
      | cons a l =>
        have hk : e.key = encE a.1 := by
          simp only [List.map_cons, List.cons.injEq, Prod.mk.injEq] at hl
          exact hl.1.1
        have hn : Instr.findNow (.struct (Try.prog.fieldsOf 34)) (encE x) (e :: es) 0 = none := by
          unfold Instr.findNow
          rw [hk]
          rfl
        have hf := Try.fields34
        rw [Try.underlying34] at hf
        simp only [Option.some.injEq] at hf
        rw [hf, hn]
        exact ask_entry x w (e :: es) (a :: l) 0 hl
  bits := fun x => by
    have h : ∀ n, Instr.sameBits (n + 1) (encE x) (encE x) = true := by
      intro n
      simp [Instr.sameBits, encE, bytes_beq]
    exact h 9999

end Go.Proofs.Ytbocdopjikkomaa
