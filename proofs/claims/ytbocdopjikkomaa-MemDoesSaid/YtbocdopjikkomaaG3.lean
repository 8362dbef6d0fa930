/- Puts beside a map of what was put. -/
import Derived.Test.YtbocdopjikkomaaG
import Derived.Test.YtbocdopjikkomaaM2
namespace Go.Proofs.Ytbocdopjikkomaa
open Go.RowKit

def enOf (n : Nd) : En := ⟨n.k, n.s, n.d, n.v⟩

/-- The map tells of each entry of the table what 'val' tells, and of no others. -/
structure MapFits (val : Nd → Value) (ns : List Nd) (l : List (En × Value)) : Prop where
  get : ∀ n ∈ ns, mget (enOf n) l = some (val n)
  dom : ∀ x, (mget x l).isSome = true → ∃ n ∈ ns, enOf n = x
  len : l.length = ns.length

theorem MapFits.nil (val : Nd → Value) : MapFits val [] [] := ⟨by simp, by simp [mget_nil], rfl⟩

theorem putL_yes {b : Nat} {ns : List Nd} {k : ByteArray} {s : Int} {d : Bool} {v : ByteArray} {ht : Int} (h : putRes ns k s d v ht = 0) : putL b ns k s d v ht = preOf k s ns ++ ⟨b, k, s, d, v, ht.toNat⟩ :: postOf k s ns := by
  rw [putL, if_pos h]

theorem mem_putL {b : Nat} {ns : List Nd} {k : ByteArray} {s : Int} {d : Bool} {v : ByteArray} {ht : Int} (h : putRes ns k s d v ht = 0) (m : Nd) : m ∈ putL b ns k s d v ht ↔ m = ⟨b, k, s, d, v, ht.toNat⟩ ∨ m ∈ ns := by
  rw [putL_yes h]
  have : m ∈ ns ↔ m ∈ preOf k s ns ∨ m ∈ postOf k s ns := by rw [← List.mem_append, pre_post]
  rw [this]
  simp only [List.mem_append, List.mem_cons]
  constructor
  · rintro (h | h | h)
    · exact .inr (.inl h)
    · exact .inl h
    · exact .inr (.inr h)
  · rintro (h | h | h)
    · exact .inr (.inl h)
    · exact .inl h
    · exact .inr (.inr h)

theorem length_putL {b : Nat} {ns : List Nd} {k : ByteArray} {s : Int} {d : Bool} {v : ByteArray} {ht : Int} (h : putRes ns k s d v ht = 0) : (putL b ns k s d v ht).length = ns.length + 1 := by
  rw [putL_yes h]
  have := congrArg List.length (pre_post k s ns)
  simp only [List.length_append, List.length_cons] at this ⊢
  omega

/-- What is put was not there. -/
theorem put_new {b : Nat} {ns : List Nd} {k : ByteArray} {s : Int} {d : Bool} {v : ByteArray} {ht : Int} (h : putRes ns k s d v ht = 0) (hW : Wf (putL b ns k s d v ht)) : ∀ m ∈ ns, ¬ (m.k = k ∧ m.s = s) := by
  intro m hm ⟨h1, h2⟩
  rw [putL_yes h] at hW
  have ho := hW.order
  rw [List.pairwise_append, List.pairwise_cons] at ho
  rw [← pre_post k s ns] at hm
  rcases List.mem_append.1 hm with hm | hm
  · have := ho.2.2 m hm ⟨b, k, s, d, v, ht.toNat⟩ (by simp)
    simp only [h1, h2, ahead_irrefl] at this
    cases this
  · have := ho.2.1.1 m hm
    simp only [h1, h2, ahead_irrefl] at this
    cases this

theorem MapFits.step {val : Nd → Value} {ns : List Nd} {l : List (En × Value)} (hf : MapFits val ns l) {b : Nat} {k : ByteArray} {s : Int} {d : Bool} {v : ByteArray} {ht : Int} (h : putRes ns k s d v ht = 0) (hW : Wf (putL b ns k s d v ht)) {u : Value} (hu : u = val ⟨b, k, s, d, v, ht.toNat⟩) :
    MapFits val (putL b ns k s d v ht) (mput ⟨k, s, d, v⟩ u l) := by
  have hnew := put_new h hW
  have hnone : mget (⟨k, s, d, v⟩ : En) l = none := by
    cases e : mget (⟨k, s, d, v⟩ : En) l with
    | none => rfl
    | some y =>
      obtain ⟨n, hn, hne⟩ := hf.dom ⟨k, s, d, v⟩ (by rw [e]; rfl)
      simp only [enOf, En.mk.injEq] at hne
      exact absurd ⟨hne.1, hne.2.1⟩ (hnew n hn)
  refine ⟨fun m hm => ?_, fun x hx => ?_, ?_⟩
  · rw [mget_mput]
    rcases (mem_putL h m).1 hm with rfl | hm
    · rw [if_pos (show enOf ⟨b, k, s, d, v, ht.toNat⟩ = ⟨k, s, d, v⟩ from rfl), hu]
    · have hne : ¬ enOf m = ⟨k, s, d, v⟩ := fun e => by
        simp only [enOf, En.mk.injEq] at e
        exact hnew m hm ⟨e.1, e.2.1⟩
      rw [if_neg hne, hf.get m hm]
  · rw [mget_mput] at hx
    split at hx
    · rename_i e
      exact ⟨⟨b, k, s, d, v, ht.toNat⟩, (mem_putL h _).2 (.inl rfl), e.symm⟩
    · obtain ⟨n, hn, he⟩ := hf.dom x hx
      exact ⟨n, (mem_putL h n).2 (.inr hn), he⟩
  · rw [length_mput, hnone, length_putL h, hf.len]
    rfl

theorem Only.map {α : Type} {enc : α → Value} {tb : Nat} {ns : List Nd} {w w' : World} {b : Nat} {l : List (α × Value)} (h : Only tb ns w w') (hT : Tab tb ns w) (hm : MapIs enc w b l) : MapIs enc w' b l := by
  obtain ⟨f, hh, _⟩ := hT
  obtain ⟨es, clock, hb, _⟩ := id hm
  refine hm.same (h.block b hm.lt ?_ ?_)
  · rintro rfl
    have := hh.head
    unfold Blk at this
    rw [this] at hb
    cases hb
  · rintro n hn rfl
    have := hh.node n hn
    unfold Blk at this
    rw [this] at hb
    cases hb

/-- A map's block is no row of cells. -/
theorem blk_map_ne {α : Type} {enc : α → Value} {w : World} {b g : Nat} {l : List (α × Value)} {t : TypeId} {cs : Array Value} (hm : MapIs enc w b l) (hg : Blk w g t cs) : some g ≠ some b := by
  intro e
  simp only [Option.some.injEq] at e
  subst e
  obtain ⟨es, clock, hb, _⟩ := hm
  unfold Blk at hg
  rw [hg] at hb
  cases hb

theorem Tab.update {α : Type} {enc : α → Value} {tb : Nat} {ns : List Nd} {w w' : World} {b : Nat} {l : List (α × Value)} (h : Tab tb ns w) (hm : MapIs enc w b l) (hg : w.grownBy w' (some b)) : Tab tb ns w' := by
  obtain ⟨f, hh, hf⟩ := h
  exact ⟨f, ⟨hh.head.grown hg (blk_map_ne hm hh.head), fun n hn => (hh.node n hn).grown hg (blk_map_ne hm (hh.node n hn))⟩, hf⟩

def PutMapRel (val : Nd → Value) (w0 : World) (tb mb len : Nat) (g : Nat) (i : Value) (wr : World) : Prop :=
  ∃ n : Nat, i = .int .i64 n ∧ n ≤ len ∧ n ≤ 200 ∧ g = 200 - n ∧ ∃ ns l, ns.length ≤ n ∧ TabIn w0 tb ns wr ∧ MapIs encE wr mb l ∧ MapFits val ns l

/-- Behind the puts. -/
def AfterMap (val : Nd → Value) (w0 : World) (tb mb : Nat) (wr : World) : Prop := ∃ ns l, ns.length ≤ 200 ∧ TabIn w0 tb ns wr ∧ MapIs encE wr mb l ∧ MapFits val ns l

theorem TabIn.step {w0 wr w3 w4 : World} {tb b : Nat} {ns : List Nd} {k : ByteArray} {s : Int} {d : Bool} {v : ByteArray} {h : Int}
    (hin : TabIn w0 tb ns wr) (hb3 : Below wr.heap.size wr w3) (htb : w0.heap.size ≤ tb)
    (hb : w3.heap.size ≤ b) (hT : Tab tb (putL b ns k s d v h) w4) (hW : Wf (putL b ns k s d v h)) (hO : Only tb ns w3 w4) : TabIn w0 tb (putL b ns k s d v h) w4 := by
  obtain ⟨_, _, hmin, hbl⟩ := hin
  have hs3 := hb3.size
  have hs := hbl.size
  refine ⟨hT, hW, ?_, (hbl.trans (hb3.mono hs)).trans (hO.below (by omega) htb hmin)⟩
  intro m hm
  by_cases hr : putRes ns k s d v h = 0
  · rcases (mem_putL hr m).1 hm with rfl | hm
    · show w0.heap.size ≤ b
      omega
    · exact hmin m hm
  · rw [putL, if_neg hr] at hm
    exact hmin m hm

theorem TabIn.update {α : Type} {enc : α → Value} {w0 : World} {tb : Nat} {ns : List Nd} {w w' : World} {b : Nat} {l : List (α × Value)} (h : TabIn w0 tb ns w) (hm : MapIs enc w b l) (hg : w.grownBy w' (some b)) (hb : w0.heap.size ≤ b) : TabIn w0 tb ns w' :=
  ⟨h.1.update hm hg, h.2.1, h.2.2.1, h.2.2.2.grown hg h.2.2.2.size (fun k hk => by cases hk; exact hb)⟩

theorem TabIn.below {w0 : World} {tb : Nat} {ns : List Nd} {w w' : World} (h : TabIn w0 tb ns w) (hb : Below w.heap.size w w') : TabIn w0 tb ns w' :=
  ⟨h.1.below hb, h.2.1, h.2.2.1, h.2.2.2.trans (hb.mono h.2.2.2.size)⟩

theorem MapIs.below {α : Type} {enc : α → Value} {w w' : World} {b : Nat} {l : List (α × Value)} (h : MapIs enc w b l) (hb : Below w.heap.size w w') : MapIs enc w' b l := h.same (hb.block b h.lt)

end Go.Proofs.Ytbocdopjikkomaa
