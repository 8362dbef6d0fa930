/- Links: what a Put does to them, level by level. No program in sight. -/
import Derived.Test.YtbocdopjikkomaaO
namespace Go.Proofs.Ytbocdopjikkomaa
open Go.RowKit

/-- The links of level l of the nodes ns, T behind them. -/
def Ch (l : Nat) (f : Nat → Nat → Option Nat) : List Nd → List Nd → Prop
  | [], _ => True
  | n :: r, T => f n.b l = (if l < n.h then nxt l (r ++ T) else none) ∧ Ch l f r T

def Lk (tb : Nat) (ns : List Nd) (f : Nat → Nat → Option Nat) (l : Nat) : Prop := f tb l = nxt l ns ∧ Ch l f ns []

theorem Ch.append {l : Nat} {f : Nat → Nat → Option Nat} {C T : List Nd} : ∀ {A : List Nd}, Ch l f (A ++ C) T ↔ Ch l f A (C ++ T) ∧ Ch l f C T
  | [] => by simp [Ch]
  | n :: r => by
    rw [List.cons_append]
    simp only [Ch]
    rw [Ch.append (A := r), List.append_assoc]
    exact and_assoc.symm

theorem Ch.at_ {l : Nat} {f : Nat → Nat → Option Nat} {T : List Nd} : ∀ {ns : List Nd}, Ch l f ns T → ∀ A n B, ns = A ++ n :: B → f n.b l = if l < n.h then nxt l (B ++ T) else none
  | _, h, A, n, B, e => by
    subst e
    rw [Ch.append] at h
    exact h.2.1

theorem Ch.of {l : Nat} {f : Nat → Nat → Option Nat} {T : List Nd} : ∀ {ns : List Nd}, (∀ A n B, ns = A ++ n :: B → f n.b l = if l < n.h then nxt l (B ++ T) else none) → Ch l f ns T
  | [], _ => trivial
  | n :: r, h => ⟨h [] n r rfl, Ch.of fun A m B e => h (n :: A) m B (by rw [e]; rfl)⟩

theorem linked_iff {tb : Nat} {ns : List Nd} {f : Nat → Nat → Option Nat} : Linked tb ns f ↔ ∀ l, l < 8 → Lk tb ns f l := by
  constructor
  · intro h l hl
    exact ⟨(h l hl).1, Ch.of fun A n B e => by rw [List.append_nil]; exact (h l hl).2 A n B e⟩
  · intro h l hl
    exact ⟨(h l hl).1, fun A n B e => by have := (h l hl).2.at_ A n B e; rwa [List.append_nil] at this⟩

/-- Other links of that level turn nothing. -/
theorem Ch.congr {l : Nat} {f f' : Nat → Nat → Option Nat} {T : List Nd} : ∀ {ns : List Nd}, (∀ n ∈ ns, f' n.b l = f n.b l) → Ch l f ns T → Ch l f' ns T
  | [], _, _ => trivial
  | n :: r, h, hc => ⟨(h n (by simp)).trans hc.1, Ch.congr (fun x hx => h x (by simp [hx])) hc.2⟩

theorem nxt_append_hit {l : Nat} {A C : List Nd} (h : ∃ a ∈ A, l < a.h) : nxt l (A ++ C) = nxt l A := by
  unfold nxt
  rw [List.find?_append]
  obtain ⟨a, ha, hl⟩ := h
  cases e : A.find? (fun n => decide (l < n.h)) with
  | none =>
    rw [List.find?_eq_none] at e
    exact absurd (by simpa using hl) (e a ha)
  | some x => rfl

theorem Ch.low {l : Nat} {f : Nat → Nat → Option Nat} {T T' : List Nd} : ∀ {ns : List Nd}, (∀ n ∈ ns, ¬ l < n.h) → Ch l f ns T → Ch l f ns T'
  | [], _, _ => trivial
  | n :: r, h, hc => ⟨by rw [hc.1, if_neg (h n (by simp)), if_neg (h n (by simp))], Ch.low (fun x hx => h x (by simp [hx])) hc.2⟩

theorem Ch.high {l : Nat} {f : Nat → Nat → Option Nat} {a : Nd} {T T' : List Nd} (ha : l < a.h) : ∀ {ns : List Nd}, Ch l f ns (a :: T) → Ch l f ns (a :: T')
  | [], _ => trivial
  | n :: r, hc => by
    refine ⟨?_, Ch.high ha hc.2⟩
    rw [hc.1]
    split
    · rw [show r ++ a :: T = (r ++ [a]) ++ T by simp, show r ++ a :: T' = (r ++ [a]) ++ T' by simp, nxt_append_hit (A := r ++ [a]) ⟨a, by simp, ha⟩, nxt_append_hit (A := r ++ [a]) ⟨a, by simp, ha⟩]
    · rfl

def upd (f : Nat → Nat → Option Nat) (b l : Nat) (o : Option Nat) : Nat → Nat → Option Nat := fun b' l' => if b' = b ∧ l' = l then o else f b' l'

theorem upd_same (f : Nat → Nat → Option Nat) (b l : Nat) (o : Option Nat) : upd f b l o b l = o := by simp [upd]
theorem upd_block {f : Nat → Nat → Option Nat} {b l : Nat} {o : Option Nat} {b' l' : Nat} (h : b' ≠ b) : upd f b l o b' l' = f b' l' := by simp [upd, h]
theorem upd_level {f : Nat → Nat → Option Nat} {b l : Nat} {o : Option Nat} {b' l' : Nat} (h : l' ≠ l) : upd f b l o b' l' = f b' l' := by simp [upd, h]

/-- A new block without links. -/
def upd' (f : Nat → Nat → Option Nat) (b : Nat) : Nat → Nat → Option Nat := fun b' => if b' = b then fun _ => none else f b'
theorem upd'_same (f : Nat → Nat → Option Nat) (b : Nat) : upd' f b b = fun _ => none := by simp [upd']
theorem upd'_far (f : Nat → Nat → Option Nat) {b b' : Nat} (h : b' ≠ b) : upd' f b b' = f b' := by simp [upd', h]

/-- No two are one block. -/
structure Dist (tb : Nat) (ns : List Nd) : Prop where
  head : ∀ n ∈ ns, n.b ≠ tb
  pair : ns.Pairwise fun a b => a.b ≠ b.b

/-- One level of a Put. -/
theorem Lk.step {tb l : Nat} {A C : List Nd} {n : Nd} {f : Nat → Nat → Option Nat} (h : Lk tb (A ++ C) f l) (hn : l < n.h) (hd : Dist tb (A ++ C)) (h1 : n.b ≠ tb) (h2 : ∀ m ∈ A ++ C, m.b ≠ n.b) :
    Lk tb (A ++ n :: C) (upd (upd f n.b l (nxt l C)) (lastAt tb l A) l (some n.b)) l := by
  obtain ⟨A1, A2, rfl, hA1, hA2⟩ := split_last l A
  rw [lastAt_of hA1 hA2]
  obtain ⟨hh, hc⟩ := h
  rcases List.eq_nil_or_concat A1 with rfl | ⟨A1', a, rfl⟩
  · rw [blkOf_nil]
    rw [List.nil_append] at *
    have hne : ∀ m ∈ A2 ++ C, upd (upd f n.b l (nxt l C)) tb l (some n.b) m.b l = f m.b l := fun m hm => by
      rw [upd_block (hd.head m hm), upd_block (h2 m hm)]
    rw [Ch.append] at hc
    refine ⟨by rw [upd_same, nxt_append_low hA2, nxt_cons_hit hn], ?_⟩
    rw [Ch.append]
    refine ⟨Ch.low hA2 (Ch.congr (fun m hm => hne m (by simp [hm])) hc.1), ?_, Ch.congr (fun m hm => hne m (by simp [hm])) hc.2⟩
    rw [upd_block h1, upd_same, if_pos hn, List.append_nil]
  · rw [List.concat_eq_append] at *
    rw [blkOf_snoc]
    have ha : l < a.h := hA1 a (by simp)
    have hab : a.b ≠ tb := hd.head a (by simp)
    have han : a.b ≠ n.b := h2 a (by simp)
    have hp := hd.pair
    rw [show A1' ++ [a] ++ A2 ++ C = A1' ++ (a :: (A2 ++ C)) by simp, List.pairwise_append, List.pairwise_cons] at hp
    have hne1 : ∀ m ∈ A1', upd (upd f n.b l (nxt l C)) a.b l (some n.b) m.b l = f m.b l := fun m hm => by
      rw [upd_block (hp.2.2 m hm a (by simp)), upd_block (h2 m (by simp [hm]))]
    have hne2 : ∀ m ∈ A2 ++ C, upd (upd f n.b l (nxt l C)) a.b l (some n.b) m.b l = f m.b l := fun m hm => by
      rw [upd_block (Ne.symm (hp.2.1.1 m hm)), upd_block (h2 m (by
        rcases List.mem_append.1 hm with hm | hm <;> simp [hm]))]
    rw [show A1' ++ [a] ++ A2 ++ C = A1' ++ (a :: (A2 ++ C)) by simp] at hh hc
    rw [show A1' ++ [a] ++ A2 ++ n :: C = A1' ++ (a :: (A2 ++ n :: C)) by simp]
    rw [Ch.append] at hc
    obtain ⟨hc1, _, hc2⟩ := hc
    rw [Ch.append] at hc2
    refine ⟨?_, ?_⟩
    · rw [upd_block (Ne.symm hab), upd_block (Ne.symm h1), hh, show A1' ++ a :: (A2 ++ C) = (A1' ++ [a]) ++ (A2 ++ C) by simp,
        show A1' ++ a :: (A2 ++ n :: C) = (A1' ++ [a]) ++ (A2 ++ n :: C) by simp, nxt_append_hit (A := A1' ++ [a]) ⟨a, by simp, ha⟩, nxt_append_hit (A := A1' ++ [a]) ⟨a, by simp, ha⟩]
    · rw [Ch.append]
      refine ⟨Ch.high ha (Ch.congr hne1 hc1), ?_, ?_⟩
      · rw [upd_same, if_pos ha, List.append_nil, nxt_append_low hA2, nxt_cons_hit hn]
      · rw [Ch.append]
        refine ⟨Ch.low hA2 (Ch.congr (fun m hm => hne2 m (by simp [hm])) hc2.1), ?_, Ch.congr (fun m hm => hne2 m (by simp [hm])) hc2.2⟩
        rw [upd_block (Ne.symm han), upd_same, if_pos hn, List.append_nil]

/-- A level above the new node's height stays. -/
theorem Lk.skip {tb l : Nat} {A C : List Nd} {n : Nd} {f : Nat → Nat → Option Nat} (h : Lk tb (A ++ C) f l) (hn : ¬ l < n.h) (hf : f n.b l = none) : Lk tb (A ++ n :: C) f l := by
  obtain ⟨hh, hc⟩ := h
  have key : ∀ r T : List Nd, nxt l (r ++ n :: T) = nxt l (r ++ T) := by
    intro r T
    unfold nxt
    rw [List.find?_append, List.find?_append, List.find?_cons_of_neg (by simpa using hn)]
  have hch : ∀ r T : List Nd, Ch l f r (C ++ T) → Ch l f r (n :: C ++ T) := by
    intro r
    induction r with
    | nil => intro _ _; trivial
    | cons m r ih =>
      intro T hc
      refine ⟨?_, ih T hc.2⟩
      rw [hc.1]
      split
      · rw [List.cons_append, key]
      · rfl
  rw [Ch.append] at hc
  refine ⟨hh.trans (key A C).symm, ?_⟩
  rw [Ch.append]
  exact ⟨hch A [] hc.1, by rw [hf, if_neg hn], hc.2⟩

theorem Lk.congr {tb l : Nat} {ns : List Nd} {f f' : Nat → Nat → Option Nat} (h : Lk tb ns f l) (he : ∀ b, f' b l = f b l) : Lk tb ns f' l :=
  ⟨(he tb).trans h.1, Ch.congr (fun n _ => he n.b) h.2⟩

/-! ### Stores -/
theorem head_set (f : Nat → Nat → Option Nat) (b : Nat) (N S : Int) {l : Nat} (h : l < 8) (o : Option Nat) : (headCells (f b) N S).setIfInBounds (5 + l) (pv o) = headCells (upd f b l o b) N S := by
  have e : upd f b l o b = fun l' => if l' = l then o else f b l' := by funext l'; simp [upd]
  rw [e]
  rcases l with _ | _ | _ | _ | _ | _ | _ | _ | l <;> first | rfl | omega

theorem node_set (n : Nd) (f : Nat → Nat → Option Nat) (b : Nat) {l : Nat} (h : l < 8) (o : Option Nat) : (nodeCells n (f b)).setIfInBounds (5 + l) (pv o) = nodeCells n (upd f b l o b) := by
  have e : upd f b l o b = fun l' => if l' = l then o else f b l' := by funext l'; simp [upd]
  rw [e]
  rcases l with _ | _ | _ | _ | _ | _ | _ | _ | l <;> first | rfl | omega

theorem upd_far (f : Nat → Nat → Option Nat) {b b' l : Nat} (o : Option Nat) (h : b' ≠ b) : upd f b l o b' = f b' := by
  funext l'
  exact upd_block h

theorem HeapIs.set {tb : Nat} {ns : List Nd} {f : Nat → Nat → Option Nat} {N S : Int} {w : World} (h : HeapIs tb ns f N S w) (b : Nat) {l : Nat} (hl : l < 8) (o : Option Nat) :
    HeapIs tb ns (upd f b l o) N S (w.setCell ⟨b, 5 + l, none⟩ (pv o)) := by
  refine ⟨?_, fun n hn => ?_⟩
  · by_cases e : tb = b
    · subst e
      have := h.head.set (5 + l) (pv o)
      rwa [head_set f tb N S hl o] at this
    · rw [upd_far f o e]
      exact h.head.far (p := ⟨b, 5 + l, none⟩) e _
  · by_cases e : n.b = b
    · subst e
      have := (h.node n hn).set (5 + l) (pv o)
      rwa [node_set n f n.b hl o] at this
    · rw [upd_far f o e]
      exact (h.node n hn).far (p := ⟨b, 5 + l, none⟩) e _

theorem HeapIs.setN {tb : Nat} {ns : List Nd} {f : Nat → Nat → Option Nat} {N S : Int} {w : World} (h : HeapIs tb ns f N S w) (N' : Int) :
    HeapIs tb ns f N' S (w.setCell ⟨tb, 13, none⟩ (.int .i64 N')) := by
  refine ⟨h.head.set 13 _, fun n hn => (h.node n hn).far (p := ⟨tb, 13, none⟩) ((h.node n hn).ne h.head (by decide)) _⟩

theorem HeapIs.setS {tb : Nat} {ns : List Nd} {f : Nat → Nat → Option Nat} {N S : Int} {w : World} (h : HeapIs tb ns f N S w) (S' : Int) :
    HeapIs tb ns f N S' (w.setCell ⟨tb, 14, none⟩ (.int .i64 S')) := by
  refine ⟨h.head.set 14 _, fun n hn => (h.node n hn).far (p := ⟨tb, 14, none⟩) ((h.node n hn).ne h.head (by decide)) _⟩

theorem HeapIs.drewN {tb : Nat} {ns : List Nd} {f : Nat → Nat → Option Nat} {N S : Int} {w : World} (h : HeapIs tb ns f N S w) (q : Nat) : HeapIs tb ns f N S (w.drewN q) := ⟨h.head, h.node⟩

/-- The nodes of a table lie in blocks of their own. -/
theorem HeapIs.dist {tb : Nat} {ns : List Nd} {f : Nat → Nat → Option Nat} {N S : Int} {w : World} (h : HeapIs tb ns f N S w) (ho : ns.Pairwise fun a b => aheadB a.k a.s b.k b.s = true) : Dist tb ns := by
  refine ⟨fun n hn => (h.node n hn).ne h.head (by decide), ?_⟩
  have : ∀ a ∈ ns, ∀ b ∈ ns, aheadB a.k a.s b.k b.s = true → a.b ≠ b.b := by
    intro a ha b hb hab e
    have h1 := h.node a ha
    have h2 := h.node b hb
    rw [← e] at h2
    have h3 := (h1.same h2).2
    have k0 := congrArg (fun x => x[0]?) h3
    have k1 := congrArg (fun x => x[1]?) h3
    simp [nodeCells] at k0 k1
    rw [k0, k1, ahead_irrefl] at hab
    cases hab
  exact ho.imp_of_mem fun ha hb hab => this _ ha _ hb hab

/-- Of what was there only the table's blocks may have turned. -/
structure Only (tb : Nat) (ns : List Nd) (w w' : World) : Prop where
  os : w'.os = w.os
  tape : w'.tape = w.tape
  output : w'.output = w.output
  size : w.heap.size ≤ w'.heap.size
  block : ∀ k, k < w.heap.size → k ≠ tb → (∀ n ∈ ns, n.b ≠ k) → w'.heap[k]? = w.heap[k]?

theorem Only.of_below {tb : Nat} {ns : List Nd} {w w' : World} (h : Below w.heap.size w w') : Only tb ns w w' := ⟨h.os, h.tape, h.output, h.size, fun k hk _ _ => h.block k hk⟩
theorem Only.drewN {tb : Nat} {ns : List Nd} {w w' : World} (h : Only tb ns w w') (n : Nat) : Only tb ns w (w'.drewN n) := ⟨h.os, h.tape, h.output, h.size, h.block⟩
theorem Only.alloc {tb : Nat} {ns : List Nd} {w w' : World} (h : Only tb ns w w') (o : Obj) : Only tb ns w (w'.alloc o) :=
  ⟨h.os, h.tape, h.output, by have := h.size; simp; omega, fun k hk h1 h2 => (Below.heap_alloc _ _ _ (by have := h.size; omega)).trans (h.block k hk h1 h2)⟩
theorem Only.setCell {tb : Nat} {ns : List Nd} {w w' : World} (h : Only tb ns w w') {p : Addr} (hp : p.block = tb ∨ (∃ n ∈ ns, n.b = p.block) ∨ w.heap.size ≤ p.block) (u : Value) : Only tb ns w (w'.setCell p u) :=
  ⟨h.os, h.tape, h.output, by have := h.size; simpa [World.setCell] using this, fun k hk h1 h2 => (Below.heap_setCell _ _ _ _ (by
    rintro rfl
    rcases hp with hp | ⟨n, hn, hp⟩ | hp
    · exact h1 hp
    · exact h2 n hn hp
    · omega)).trans (h.block k hk h1 h2)⟩
theorem Only.below {tb : Nat} {ns : List Nd} {w w' : World} {B : Nat} (h : Only tb ns w w') (h1 : B ≤ w.heap.size) (h2 : B ≤ tb) (h3 : ∀ n ∈ ns, B ≤ n.b) : Below B w w' :=
  ⟨h.os, h.tape, h.output, h.size, fun k hk => h.block k (by omega) (by omega) (fun n hn => by have := h3 n hn; omega)⟩
theorem Only.blk {tb : Nat} {ns : List Nd} {w w' : World} {g : Nat} {t : TypeId} {cs : Array Value} (h : Only tb ns w w') (hT : Tab tb ns w) (hb : Blk w g t cs) (h1 : t ≠ 59) (h2 : t ≠ 61) : Blk w' g t cs := by
  obtain ⟨f, hh, _⟩ := hT
  exact (h.block g hb.lt (hb.ne hh.head h2) (fun n hn => Ne.symm (hb.ne (hh.node n hn) h1))).trans hb

end Go.Proofs.Ytbocdopjikkomaa
