/- A slice of puts that came in, opened. -/
import Derived.Test.YtbocdopjikkomaaG
import Derived.ProofKit
import Derived.OpenShut
import Derived.ShutString
import Derived.ChangeOld
import Derived.Deep.Slices
namespace Go.Proofs.Ytbocdopjikkomaa
open Go.ChangeShapes Go.WideShapes Go.ChangeAt Go.RowKit Go.Deep

theorem Try.own : ownKnob Try.prog.godebug = none := by kernel_rfl
theorem Try.laidOut : laidOutB Try.prog = true := by kernel_rfl
theorem Try.cells36 : Try.prog.cellsOf 36 = 5 := by kernel_rfl
theorem Try.cells3 : Try.prog.cellsOf 3 = 1 := by kernel_rfl
theorem Try.cells9 : Try.prog.cellsOf 9 = 1 := by kernel_rfl
theorem Try.cells23 : Try.prog.cellsOf 23 = 1 := by kernel_rfl
theorem Try.cells4 : Try.prog.cellsOf 4 = 1 := by kernel_rfl
theorem Try.cells34 : Try.prog.cellsOf 34 = 4 := by kernel_rfl

theorem list_of {α : Type} {p : Nat → α → Prop} (n : Nat) (h : ∀ i, i < n → ∃ x, p i x) : ∃ xs : List α, xs.length = n ∧ ∀ i x, xs[i]? = some x → p i x := by
  induction n with
  | zero => exact ⟨[], rfl, by simp⟩
  | succ n ih =>
    obtain ⟨xs, hl, hx⟩ := ih fun i hi => h i (by omega)
    obtain ⟨x, hp⟩ := h n (by omega)
    refine ⟨xs ++ [x], by simp [hl], fun i y hy => ?_⟩
    by_cases hi : i < n
    · rw [List.getElem?_append_left (by omega)] at hy
      exact hx i y hy
    · have hi2 : i < (xs ++ [x]).length := (List.getElem?_eq_some_iff.1 hy).1
      simp at hi2
      have : i = n := by omega
      subst this
      rw [List.getElem?_append_right (by omega)] at hy
      simp [hl] at hy
      subst hy
      exact hp

section
variable {H : Type} {enc : TypeId × Value → H} {w : World}

theorem put_open {base : Nat} {sp : Nat → Bool} {held : Bool} {fuel : Nat} {cs : List Value} {x : DataW H × List MemPlace} (h : DataW.trod enc Try.prog w base sp held fuel 36 cs = some x) :
    ∃ p : Pt, cs = [.string p.k, .int .u64 p.s, .bool p.d, .string p.v, .int .i64 p.h] := by
  obtain ⟨xs, n, _, _, hlen, hsz, hf⟩ := DataW.trod_struct Try.underlying36 h
  rw [Try.cells36] at hlen
  match cs, hlen with
  | [c0, c1, c2, c3, c4], _ =>
    match xs, hsz with
    | [y0, y1], _ =>
      have f0 : DataW.trod enc Try.prog w base sp held n 34 [c0, c1, c2, c3] = some y0 := by simpa [Try.cells34] using hf 0 _ rfl
      have f1 : DataW.trod enc Try.prog w base sp held n 3 [c4] = some y1 := by simpa [Try.cells3] using hf 1 _ rfl
      obtain ⟨h', hc, _, _⟩ := DataW.trod_int Try.underlying3 f1
      obtain ⟨zs, n2, _, _, _, hsz2, hg⟩ := DataW.trod_struct Try.underlying34 f0
      match zs, hsz2 with
      | [z0, z1, z2, z3], _ =>
        have g0 : DataW.trod enc Try.prog w base sp held n2 9 [c0] = some z0 := by simpa [Try.cells9] using hg 0 _ rfl
        have g1 : DataW.trod enc Try.prog w base sp held n2 23 [c1] = some z1 := by simpa [Try.cells23] using hg 1 _ rfl
        have g2 : DataW.trod enc Try.prog w base sp held n2 4 [c2] = some z2 := by simpa [Try.cells4] using hg 2 _ rfl
        have g3 : DataW.trod enc Try.prog w base sp held n2 9 [c3] = some z3 := by simpa [Try.cells9] using hg 3 _ rfl
        obtain ⟨a0, e0, _, _⟩ := DataW.trod_string Try.underlying9 g0
        obtain ⟨a1, e1, _, _⟩ := DataW.trod_int Try.underlying23 g1
        obtain ⟨a2, e2, _⟩ := DataW.trod_bool Try.underlying4 g2
        obtain ⟨a3, e3, _, _⟩ := DataW.trod_string Try.underlying9 g3
        simp only [List.cons.injEq, and_true] at e0 e1 e2 e3 hc
        subst e0 e1 e2 e3 hc
        exact ⟨⟨a0, a1, a2, a3, h'⟩, rfl⟩

theorem add_plain' (b off k : Nat) : (⟨b, off, none⟩ : Addr).add k = ⟨b, off + k, none⟩ := by
  unfold Addr.add
  split
  · rename_i h; subst h; rfl
  · rfl

theorem puts_open {fuel : Nat} {ao : Option Addr} {len cap : Nat} {x : DataW H × List MemPlace} (h : DataW.trod enc Try.prog w 0 (fun _ => true) true fuel 22 [.slice ao len cap] = some x) : ∃ xs, PutsAt w ao len xs := by
  rcases open_slice Try.underlying22 h with ⟨hcs, _⟩ | ⟨a, len', cap', m, n, D, Pl, hcs, hb, hl, hm, hmm, _, hi⟩
  · simp at hcs
    obtain ⟨rfl, rfl, rfl⟩ := hcs
    exact ⟨[], rfl, fun hc => by omega⟩
  · simp at hcs
    obtain ⟨rfl, rfl, rfl⟩ := hcs
    simp only [if_true] at hmm
    subst hmm
    rw [Try.cells36] at hi
    have hel : ∀ i, i < len → ∃ p : Pt, w.cell? (a.add (i * 5)) = some (.string p.k) ∧ w.cell? ((a.add (i * 5)).add 1) = some (.int .u64 p.s) ∧ w.cell? ((a.add (i * 5)).add 2) = some (.bool p.d) ∧
        w.cell? ((a.add (i * 5)).add 3) = some (.string p.v) ∧ w.cell? ((a.add (i * 5)).add 4) = some (.int .i64 p.h) := by
      intro i hi'
      obtain ⟨cs, hc, ht⟩ := hi i (by omega)
      obtain ⟨p, rfl⟩ := put_open ht
      obtain ⟨_, _, hat⟩ := World.cells?_some hc
      have h0 := hat 0 (by omega)
      rw [show (a.add (i * 5)).add 0 = a.add (i * 5) from rfl] at h0
      exact ⟨p, h0, hat 1 (by omega), hat 2 (by omega), hat 3 (by omega), hat 4 (by omega)⟩
    by_cases h0 : len = 0
    · exact ⟨[], by simp [h0], fun hc => by omega⟩
    · obtain ⟨xs, hxl, hxs⟩ := list_of len hel
      obtain ⟨b, off, spot⟩ := a
      have hc0 := (hxs 0 xs[0] (by rw [List.getElem?_eq_getElem])).1
      have hspot : spot = none := by simpa [Addr.add] using World.cell?_spot hc0
      subst hspot
      have hblt : b < w.heap.size := by
        have := World.block_lt_of_cell? w _ hc0
        simpa [Addr.add] using this
      refine ⟨xs, hxl, fun _ => ⟨b, off, rfl, hblt, fun i y hy => ?_⟩⟩
      obtain ⟨q0, q1, q2, q3, q4⟩ := hxs i y hy
      simp only [add_plain'] at q0 q1 q2 q3 q4
      exact ⟨q0, q1, q2, q3, q4⟩
end

end Go.Proofs.Ytbocdopjikkomaa
