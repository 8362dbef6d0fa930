/- Same: two slices of entries held against each other. -/
import Derived.Test.YtbocdopjikkomaaG2
import Derived.Deep.QuietTactic
import Derived.BigQuiet
namespace Go.Proofs.Ytbocdopjikkomaa
open Go.RowKit

/-- Element i of a row of entries lies there. -/
def EntAt (w : World) (b off i : Nat) (m : Nd) : Prop :=
  w.cell? ⟨b, off + i * 4, none⟩ = some (.string m.k) ∧ w.cell? ⟨b, off + i * 4 + 1, none⟩ = some (.int .u64 m.s) ∧
    w.cell? ⟨b, off + i * 4 + 2, none⟩ = some (.bool m.d) ∧ w.cell? ⟨b, off + i * 4 + 3, none⟩ = some (.string m.v)

/-- The address leads to these entries. -/
def EntsAt (w : World) (ao : Option Addr) (es : List Nd) : Prop :=
  es ≠ [] → ∃ b off, ao = some ⟨b, off, none⟩ ∧ b < w.heap.size ∧ ∀ i m, es[i]? = some m → EntAt w b off i m

theorem EntAt.below {w w' : World} {b off i B : Nat} {m : Nd} (h : EntAt w b off i m) (hb : Below B w w') (hB : b < B) : EntAt w' b off i m := by
  obtain ⟨h0, h1, h2, h3⟩ := h
  refine ⟨?_, ?_, ?_, ?_⟩ <;> rw [hb.cell (by exact hB)] <;> assumption

theorem EntsAt.below {w w' : World} {ao : Option Addr} {es : List Nd} (h : EntsAt w ao es) (hb : Below w.heap.size w w') : EntsAt w' ao es := by
  intro hne
  obtain ⟨b, off, rfl, hlt, hat⟩ := h hne
  exact ⟨b, off, rfl, by have := hb.size; omega, fun i m hm => (hat i m hm).below hb hlt⟩

/-- A row that the call owns. -/
theorem EntsAt.own {w : World} {base n c : Nat} {ao : Option Addr} {es : List Nd} (h : w.ownsRow base 34 4 (.slice ao n c) es.length (entsC es)) : EntsAt w ao es := by
  intro hne
  have hpos : 0 < es.length := by
    cases es with
    | nil => exact absurd rfl hne
    | cons a r => simp
  obtain ⟨g, c', e, _, _, _, hlt, hc⟩ := own_some h hpos
  simp only [Value.slice.injEq] at e
  obtain ⟨rfl, _, _⟩ := e
  refine ⟨g, 0, rfl, hlt, fun i m hm => ?_⟩
  obtain ⟨m0, m1, m2, m3⟩ := entsC_at hm
  unfold EntAt
  rw [show 0 + i * 4 = i * 4 by omega]
  exact ⟨by simpa using hc _ _ m0, by simpa using hc _ _ m1, by simpa using hc _ _ m2, by simpa using hc _ _ m3⟩

/-- The entries of two nodes are one. -/
def SameEn (a b : Nd) : Prop := a.k = b.k ∧ a.s = b.s ∧ a.d = b.d ∧ a.v = b.v

def SameRel (n : Nat) (g : Nat) (i : Value) (w wr : World) : Prop := ∃ k : Nat, i = .int .i64 k ∧ k ≤ n ∧ g = n - k ∧ ∃ q, wr = w.drewN q

set_option maxHeartbeats 1000000 in
theorem same_calls (ao bo : Option Addr) (n c d : Nat) (es fs : List Nd) (w : World) (he : EntsAt w ao es) (hf : EntsAt w bo fs) (hn : es.length = n) (hn' : fs.length = n) (hs : ∀ (i : Nat) (a b : Nd), es[i]? = some a → fs[i]? = some b → SameEn a b) (hb : n ≤ 100000) :
    Calls Try.prog 23 #[.slice ao n c, .slice bo n d] w fun e w' => e = .returned (.bool true) ∧ ∃ q, w' = w.drewN q := by
  have Hn := Lib.hid hn
  have Hn' := Lib.hid hn'
  clear hn hn'
  go_enter Try.func23, Try.ntmps23
  go_wp2_with fail
  go_loopg [5] n (fun g i wr => SameRel n g i w wr)
  case atStart => exact ⟨0, rfl, by omega, by omega, 0, rfl⟩
  case round =>
    obtain ⟨k, rfl, hk, rfl, q, rfl⟩ := hrel
    by_cases hlt : k < n
    · obtain ⟨a, ha⟩ : ∃ a, es[k]? = some a := ⟨es[k]'(by rw [Hn.out]; exact hlt), by simp⟩
      obtain ⟨b, hb'⟩ : ∃ b, fs[k]? = some b := ⟨fs[k]'(by rw [Hn'.out]; exact hlt), by simp⟩
      obtain ⟨h1, h2, h3, h4⟩ := hs k a b ha hb'
      obtain ⟨b1, o1, rfl, _, hat1⟩ := he (by rintro rfl; simp at ha)
      obtain ⟨b2, o2, rfl, _, hat2⟩ := hf (by rintro rfl; simp at hb')
      obtain ⟨e0, e1, e2, e3⟩ := hat1 k a ha
      obtain ⟨f0, f1, f2, f3⟩ := hat2 k b hb'
      rw [← h1] at f0
      rw [← h2] at f1
      rw [← h3] at f2
      rw [← h4] at f3
      have hlti : (k : Int) < (n : Int) := by omega
      clear h1 h2 h3 h4 hat1 hat2 ha hb' he hf hs
      go_wp2_with fail
      go_quiet (fail)
      go_wp2_with fail
      go_roundg (n - (k + 1))
      case measure => omega
      case rel => exact ⟨k + 1, by go_num, by omega, rfl, _, rfl⟩
    · go_wp2_with fail
      go_ret
      exact ⟨rfl, q, rfl⟩

theorem own_cap {w : World} {base n n' c : Nat} {e : TypeId} {size : Nat} {ao : Option Addr} {xs : List Value} (h : w.ownsRow base e size (.slice ao n' c) n xs) : n ≤ c := by
  rcases h.2 with ⟨h1, rfl⟩ | ⟨g, c', cur, h1, _, _, h2, _⟩
  · omega
  · simp only [Value.slice.injEq] at h1
    omega

theorem pre_le (key : ByteArray) (seq : Int) (ns : List Nd) : (preOf key seq ns).length ≤ ns.length := by
  have := congrArg List.length (pre_post key seq ns)
  rw [List.length_append] at this
  omega

/-- Which entries have a lesser key. -/
theorem less_pre {ns : List Nd} (h : Wf ns) (key : ByteArray) {k : Nat} {m : Nd} (hm : ns[k]? = some m) :
    Op.bytesLess m.k.toList key.toList = decide (k < (preOf key 18446744073709551615 ns).length) := by
  have hmem : m ∈ ns := List.mem_of_getElem? hm
  obtain ⟨_, _, _, _, _, h6⟩ := may_parts (h.may m hmem)
  have hpp := pre_post key 18446744073709551615 ns
  have e : Op.bytesLess m.k.toList key.toList = aheadB m.k m.s key 18446744073709551615 := by
    have : decide ((18446744073709551615 : Int) < m.s) = false := by simp; omega
    simp [aheadB, this]
  rw [e]
  rw [← hpp] at hm
  by_cases hk : k < (preOf key 18446744073709551615 ns).length
  · rw [List.getElem?_append_left hk] at hm
    rw [pre_ahead (List.mem_of_getElem? hm), decide_eq_true hk]
  · rw [List.getElem?_append_right (by omega)] at hm
    rw [post_behind h.order (List.mem_of_getElem? hm), decide_eq_false hk]

theorem post_drop (key : ByteArray) (seq : Int) (ns : List Nd) : postOf key seq ns = ns.drop (preOf key seq ns).length := by
  have hpp := pre_post key seq ns
  conv => rhs; rw [← hpp]
  rw [List.drop_left' (by rw [hpp])]

theorem EntsAt.drop {w : World} {ao : Option Addr} {es : List Nd} (h : EntsAt w ao es) (k : Nat) : EntsAt w (ao.map fun x => x.add (k * 4)) (es.drop k) := by
  intro hne
  obtain ⟨b, off, rfl, hlt, hat⟩ := h (by rintro rfl; simp at hne)
  refine ⟨b, off + k * 4, ?_, hlt, fun i m hm => ?_⟩
  · simp only [Option.map_some, Addr.add]
    split
    · rename_i h0; rw [h0]; rfl
    · rfl
  · rw [List.getElem?_drop] at hm
    have := hat _ m hm
    unfold EntAt at this ⊢
    rwa [show off + k * 4 + i * 4 = off + (k + i) * 4 by omega]

theorem EntsAt.take {w : World} {ao : Option Addr} {es : List Nd} (h : EntsAt w ao es) (k : Nat) : EntsAt w ao (es.take k) := by
  intro hne
  obtain ⟨b, off, rfl, hlt, hat⟩ := h (by rintro rfl; simp at hne)
  refine ⟨b, off, rfl, hlt, fun i m hm => hat i m ?_⟩
  rw [List.getElem?_take] at hm
  split at hm
  · exact hm
  · cases hm

/-- The slice all[k:]. -/
def RestRel (ns : List Nd) (kk : Nat) (v : Value) (wc wr : World) : Prop :=
  ∃ X cc, v = .slice X (ns.length - kk) cc ∧ ns.length - kk ≤ cc ∧ EntsAt wc X (ns.drop kk) ∧ wr = wc

theorem sameEn_refl {fs : List Nd} : ∀ (i : Nat) (a b : Nd), fs[i]? = some a → fs[i]? = some b → SameEn a b := by
  intro i a b ha hb
  rw [ha] at hb
  cases hb
  exact ⟨rfl, rfl, rfl, rfl⟩

/-- A row of the call's own, held against a slice that leads to the same entries. -/
theorem same_own {w : World} {base : Nat} {v : Value} {fs : List Nd} {X : Option Addr} {m cc : Nat} (hown : w.ownsRow base 34 4 v fs.length (entsC fs)) (hX : EntsAt w X fs) (hm : fs.length = m) (hb : m ≤ 100000) :
    Calls Try.prog 23 #[v, .slice X m cc] w fun e w' => e = .returned (.bool true) ∧ Below w.heap.size w w' := by
  obtain ⟨ao, c, rfl⟩ := own_slice hown
  have hE := EntsAt.own hown
  rw [hm]
  refine (same_calls ao X m c cc fs fs w hE hX hm hm sameEn_refl hb).mono ?_
  rintro e w' ⟨rfl, q, rfl⟩
  exact ⟨rfl, below_drewN (Below.refl _ _) q⟩

end Go.Proofs.Ytbocdopjikkomaa
