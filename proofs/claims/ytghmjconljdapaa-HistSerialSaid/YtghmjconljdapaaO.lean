/- Histories that came in, opened. -/
import Derived.Test.YtghmjconljdapaaC
import Derived.ProofKit
import Derived.OpenShut
import Derived.ShutString
import Derived.ChangeOld
import Derived.Deep.Slices
namespace Go.Proofs.Ytghmjconljdapaa
open Go.ChangeShapes Go.WideShapes Go.ChangeAt Go.RowKit Go.Deep

theorem Try.own : ownKnob Try.prog.godebug = none := by kernel_rfl
theorem Try.laidOut : laidOutB Try.prog = true := by kernel_rfl
theorem Try.cells34 : Try.prog.cellsOf 34 = 4 := by kernel_rfl
theorem Try.cells3 : Try.prog.cellsOf 3 = 1 := by kernel_rfl
theorem Try.cells9 : Try.prog.cellsOf 9 = 1 := by kernel_rfl
theorem Try.cells23 : Try.prog.cellsOf 23 = 1 := by kernel_rfl
theorem Try.cells4 : Try.prog.cellsOf 4 = 1 := by kernel_rfl
theorem Try.cells31 : Try.prog.cellsOf 31 = 1 := by kernel_rfl
theorem Try.cells32 : Try.prog.cellsOf 32 = 1 := by kernel_rfl
theorem Try.cells40 : Try.prog.cellsOf 40 = 3 := by kernel_rfl
theorem Try.cells48 : Try.prog.cellsOf 48 = 3 := by kernel_rfl

theorem list_of {α : Type} {p : Nat → α → Prop} (n : Nat) (h : ∀ i, i < n → ∃ x, p i x) : ∃ xs : List α, xs.length = n ∧ ∀ i x, xs[i]? = some x → p i x := by
  induction n with
  | zero => exact ⟨[], rfl, by simp⟩
  | succ n ih =>
    obtain ⟨xs, hl, hx⟩ := ih fun i hi => h i (by omega)
    obtain ⟨x, hp⟩ := h n (by omega)
    refine ⟨xs ++ [x], by simp [hl], fun i y hy => ?_⟩
    by_cases hi : i < n
    · rw [List.getElem?_append_left (by omega)] at hy
      exact hx i y hy
    · have hi2 : i < (xs ++ [x]).length := (List.getElem?_eq_some_iff.1 hy).1
      simp at hi2
      have : i = n := by omega
      subst this
      rw [List.getElem?_append_right (by omega)] at hy
      simp [hl] at hy
      subst hy
      exact hp

theorem add_plain' (b off k : Nat) : (⟨b, off, none⟩ : Addr).add k = ⟨b, off + k, none⟩ := by
  unfold Addr.add
  split
  · rename_i h; subst h; rfl
  · rfl

section
variable {H : Type} {enc : TypeId × Value → H} {w : World}

/-- A slice whose elements can be opened. -/
theorem rows_open {α : Type} {At : World → Nat → Nat → Nat → α → Prop} {Q : α → Prop} {st et : TypeId} {k : Nat} (hu : Try.prog.underlying st = some (.slice et)) (hk : Try.prog.cellsOf et = k) (hk0 : 0 < k)
    (hop : ∀ {n : Nat} {cs : List Value} {x : DataW H × List MemPlace}, DataW.trod enc Try.prog w 0 (fun _ => true) true n et cs = some x → cs.length = k →
      ∃ p : α, Q p ∧ ∀ b off i, (∀ j u, cs[j]? = some u → w.cell? ⟨b, off + i * k + j, none⟩ = some u) → At w b off i p)
    {fuel : Nat} {ao : Option Addr} {len cap : Nat} {x : DataW H × List MemPlace} (h : DataW.trod enc Try.prog w 0 (fun _ => true) true fuel st [.slice ao len cap] = some x) :
    ∃ xs, RowOf At w ao len xs ∧ ∀ p ∈ xs, Q p := by
  rcases open_slice hu h with ⟨hcs, _⟩ | ⟨a, len', cap', m, n, D, Pl, hcs, hb, hl, hm, hmm, _, hi⟩
  · simp at hcs
    obtain ⟨rfl, rfl, rfl⟩ := hcs
    exact ⟨[], ⟨rfl, fun hc => by omega⟩, by simp⟩
  · simp at hcs
    obtain ⟨rfl, rfl, rfl⟩ := hcs
    simp only [if_true] at hmm
    subst hmm
    rw [hk] at hi
    obtain ⟨b, off, spot⟩ := a
    by_cases h0 : len = 0
    · exact ⟨[], ⟨by simp [h0], fun hc => by omega⟩, by simp⟩
    · have hs : spot = none ∧ b < w.heap.size := by
        obtain ⟨cs, hc, ht⟩ := hi 0 (by omega)
        obtain ⟨_, hlen, hat⟩ := World.cells?_some hc
        have h0 := hat 0 (by omega)
        rw [List.getElem?_eq_getElem (by omega)] at h0
        refine ⟨by simpa [Addr.add] using World.cell?_spot h0, ?_⟩
        have := World.block_lt_of_cell? w _ h0
        simpa [Addr.add] using this
      obtain ⟨rfl, hblt⟩ := hs
      have hel : ∀ i, i < len → ∃ p : α, Q p ∧ At w b off i p := by
        intro i hi'
        obtain ⟨cs, hc, ht⟩ := hi i (by omega)
        obtain ⟨_, hlen, hat⟩ := World.cells?_some hc
        obtain ⟨p, hq, hp⟩ := hop ht hlen
        refine ⟨p, hq, hp b off i fun j u hu => ?_⟩
        obtain ⟨hj, rfl⟩ := List.getElem?_eq_some_iff.1 hu
        have := hat j (by omega)
        rw [List.getElem?_eq_getElem hj] at this
        simpa only [add_plain'] using this
      obtain ⟨xs, hxl, hxs⟩ := list_of len hel
      refine ⟨xs, ⟨hxl, fun _ => ⟨b, off, rfl, hblt, fun i y hy => (hxs i y hy).2⟩⟩, fun p hp => ?_⟩
      obtain ⟨i, hi⟩ := List.mem_iff_getElem?.1 hp
      exact (hxs i p hi).1

/-- A write, opened. -/
theorem mt_open {n : Nat} {cs : List Value} {x : DataW H × List MemPlace} (h : DataW.trod enc Try.prog w 0 (fun _ => true) true n 40 cs = some x) (hl : cs.length = 3) :
    ∃ p : Mt, True ∧ ∀ b off i, (∀ j u, cs[j]? = some u → w.cell? ⟨b, off + i * 3 + j, none⟩ = some u) → MtAt w b off i p := by
  obtain ⟨xs, n, _, _, hlen, hsz, hf⟩ := DataW.trod_struct Try.underlying40 h
  match cs, hl with
  | [c0, c1, c2], _ =>
    match xs, hsz with
    | [y0, y1, y2], _ =>
      have f0 : DataW.trod enc Try.prog w 0 (fun _ => true) true n 9 [c0] = some y0 := by simpa [Try.cells9] using hf 0 _ rfl
      have f1 : DataW.trod enc Try.prog w 0 (fun _ => true) true n 3 [c1] = some y1 := by simpa [Try.cells3] using hf 1 _ rfl
      have f2 : DataW.trod enc Try.prog w 0 (fun _ => true) true n 9 [c2] = some y2 := by simpa [Try.cells9] using hf 2 _ rfl
      obtain ⟨a0, e0, _, _⟩ := DataW.trod_string Try.underlying9 f0
      obtain ⟨a1, e1, _, _⟩ := DataW.trod_int Try.underlying3 f1
      obtain ⟨a2, e2, _, _⟩ := DataW.trod_string Try.underlying9 f2
      simp only [List.cons.injEq, and_true] at e0 e1 e2
      subst e0 e1 e2
      exact ⟨⟨a0, a1, a2⟩, trivial, fun b off i hat => ⟨hat 0 _ rfl, hat 1 _ rfl, hat 2 _ rfl⟩⟩

/-- A read, opened. -/
theorem rd_open {n : Nat} {cs : List Value} {x : DataW H × List MemPlace} (h : DataW.trod enc Try.prog w 0 (fun _ => true) true n 48 cs = some x) (hl : cs.length = 3) :
    ∃ p : Rd, True ∧ ∀ b off i, (∀ j u, cs[j]? = some u → w.cell? ⟨b, off + i * 3 + j, none⟩ = some u) → RdAt w b off i p := by
  obtain ⟨xs, n, _, _, hlen, hsz, hf⟩ := DataW.trod_struct Try.underlying48 h
  match cs, hl with
  | [c0, c1, c2], _ =>
    match xs, hsz with
    | [y0, y1, y2], _ =>
      have f0 : DataW.trod enc Try.prog w 0 (fun _ => true) true n 9 [c0] = some y0 := by simpa [Try.cells9] using hf 0 _ rfl
      have f1 : DataW.trod enc Try.prog w 0 (fun _ => true) true n 9 [c1] = some y1 := by simpa [Try.cells9] using hf 1 _ rfl
      have f2 : DataW.trod enc Try.prog w 0 (fun _ => true) true n 4 [c2] = some y2 := by simpa [Try.cells4] using hf 2 _ rfl
      obtain ⟨a0, e0, _, _⟩ := DataW.trod_string Try.underlying9 f0
      obtain ⟨a1, e1, _, _⟩ := DataW.trod_string Try.underlying9 f1
      obtain ⟨a2, e2, _⟩ := DataW.trod_bool Try.underlying4 f2
      simp only [List.cons.injEq, and_true] at e0 e1 e2
      subst e0 e1 e2
      exact ⟨⟨a0, a1, a2⟩, trivial, fun b off i hat => ⟨hat 0 _ rfl, hat 1 _ rfl, hat 2 _ rfl⟩⟩

/-- A slice's value. -/
theorem slice_form {st et : TypeId} (hu : Try.prog.underlying st = some (.slice et)) {n : Nat} {c : Value} {x : DataW H × List MemPlace} (h : DataW.trod enc Try.prog w 0 (fun _ => true) true n st [c] = some x) :
    ∃ ao len cap, c = .slice ao len cap := by
  rcases open_slice hu h with ⟨hcs, _⟩ | ⟨a, len', cap', m, n, D, Pl, hcs, _⟩
  · simp at hcs
    exact ⟨_, _, _, hcs⟩
  · simp at hcs
    exact ⟨_, _, _, hcs⟩

theorem mts_open {n : Nat} {ao : Option Addr} {len cap : Nat} {x : DataW H × List MemPlace} (h : DataW.trod enc Try.prog w 0 (fun _ => true) true n 32 [.slice ao len cap] = some x) : ∃ xs, RowOf MtAt w ao len xs := by
  obtain ⟨xs, hx, _⟩ := rows_open (At := MtAt) (Q := fun _ => True) Try.underlying32 Try.cells40 (by decide) mt_open h
  exact ⟨xs, hx⟩

theorem rds_open {n : Nat} {ao : Option Addr} {len cap : Nat} {x : DataW H × List MemPlace} (h : DataW.trod enc Try.prog w 0 (fun _ => true) true n 31 [.slice ao len cap] = some x) : ∃ xs, RowOf RdAt w ao len xs := by
  obtain ⟨xs, hx, _⟩ := rows_open (At := RdAt) (Q := fun _ => True) Try.underlying31 Try.cells48 (by decide) rd_open h
  exact ⟨xs, hx⟩

/-- A transaction, opened. -/
theorem tx_open {n : Nat} {cs : List Value} {x : DataW H × List MemPlace} (h : DataW.trod enc Try.prog w 0 (fun _ => true) true n 34 cs = some x) (hl : cs.length = 4) :
    ∃ p : Tx, 0 ≤ p.t ∧ ∀ b off i, (∀ j u, cs[j]? = some u → w.cell? ⟨b, off + i * 4 + j, none⟩ = some u) → TxAt w b off i p := by
  obtain ⟨xs, n, _, _, hlen, hsz, hf⟩ := DataW.trod_struct Try.underlying34 h
  match cs, hl with
  | [c0, c1, c2, c3], _ =>
    match xs, hsz with
    | [y0, y1, y2, y3], _ =>
      have f0 : DataW.trod enc Try.prog w 0 (fun _ => true) true n 23 [c0] = some y0 := by simpa [Try.cells23] using hf 0 _ rfl
      have f1 : DataW.trod enc Try.prog w 0 (fun _ => true) true n 23 [c1] = some y1 := by simpa [Try.cells23] using hf 1 _ rfl
      have f2 : DataW.trod enc Try.prog w 0 (fun _ => true) true n 31 [c2] = some y2 := by simpa [Try.cells31] using hf 2 _ rfl
      have f3 : DataW.trod enc Try.prog w 0 (fun _ => true) true n 32 [c3] = some y3 := by simpa [Try.cells32] using hf 3 _ rfl
      obtain ⟨a0, e0, _, w0⟩ := DataW.trod_int Try.underlying23 f0
      obtain ⟨a1, e1, _, w1⟩ := DataW.trod_int Try.underlying23 f1
      simp only [List.cons.injEq, and_true] at e0 e1
      subst e0 e1
      obtain ⟨ra, rn, rc, rfl⟩ := slice_form Try.underlying31 f2
      obtain ⟨wa, wn, wc, rfl⟩ := slice_form Try.underlying32 f3
      obtain ⟨rs, hr⟩ := rds_open f2
      obtain ⟨ws, hw⟩ := mts_open f3
      obtain rfl := hr.count
      obtain rfl := hw.count
      refine ⟨⟨a0, a1, rs, ws⟩, ?_, fun b off i hat => ⟨hat 0 _ rfl, hat 1 _ rfl, ⟨ra, rc, hat 2 _ rfl, hr⟩, wa, wc, hat 3 _ rfl, hw⟩⟩
      exact (bounds_u64 w1).1

theorem txs_open {n : Nat} {ao : Option Addr} {len cap : Nat} {x : DataW H × List MemPlace} (h : DataW.trod enc Try.prog w 0 (fun _ => true) true n 22 [.slice ao len cap] = some x) : ∃ xs, RowOf TxAt w ao len xs ∧ ∀ x ∈ xs, 0 ≤ x.t :=
  rows_open (At := TxAt) (Q := fun p => 0 ≤ p.t) Try.underlying22 Try.cells34 (by decide) tx_open h

end
end Go.Proofs.Ytghmjconljdapaa
