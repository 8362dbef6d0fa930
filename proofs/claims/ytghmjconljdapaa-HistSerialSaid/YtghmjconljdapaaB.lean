/- The walks over IndexFunc, wrote and Value. -/
import Derived.Test.YtghmjconljdapaaA
namespace Go.Proofs.Ytghmjconljdapaa
open Go.RowKit

def hitK (key : ByteArray) (m : Mt) : Bool := m.k.toList == key.toList

/-- Where the first write of a key stands. -/
def idxOf (key : ByteArray) (ws : List Mt) : Option Nat := ws.findIdx? (hitK key)

def idxInt (key : ByteArray) (ws : List Mt) : Int := match idxOf key ws with | some i => i | none => -1

theorem idx_some {key : ByteArray} {ws : List Mt} {i : Nat} {m : Mt} (hm : ws[i]? = some m) (h0 : ∀ x ∈ ws.take i, hitK key x = false) (h1 : hitK key m = true) : idxOf key ws = some i := by
  unfold idxOf
  rw [List.findIdx?_eq_some_iff_getElem]
  have hlt := (List.getElem?_eq_some_iff.1 hm).1
  refine ⟨hlt, by rw [(List.getElem?_eq_some_iff.1 hm).2]; exact h1, fun j hj => ?_⟩
  rw [h0 _ (by rw [List.mem_take_iff_getElem]; exact ⟨j, by omega, rfl⟩)]
  simp

theorem idx_none {key : ByteArray} {ws : List Mt} (h0 : ∀ x ∈ ws, hitK key x = false) : idxOf key ws = none := by
  unfold idxOf
  rw [List.findIdx?_eq_none_iff]
  exact h0

theorem idx_wrote (key : ByteArray) (ws : List Mt) : (idxOf key ws = none ∧ wroteOf key ws = none) ∨ ∃ i m, idxOf key ws = some i ∧ ws[i]? = some m ∧ wroteOf key ws = some m := by
  cases h : idxOf key ws with
  | none =>
    refine .inl ⟨rfl, ?_⟩
    unfold idxOf at h
    rw [List.findIdx?_eq_none_iff] at h
    unfold wroteOf
    rw [List.find?_eq_none]
    intro x hx
    have := h x hx
    simpa [hitK] using this
  | some i =>
    refine .inr ⟨i, ?_⟩
    unfold idxOf at h
    have h' := h
    rw [List.findIdx?_eq_some_iff_getElem] at h
    obtain ⟨hlt, h1, h2⟩ := h
    refine ⟨ws[i], rfl, by simp, ?_⟩
    unfold wroteOf
    rw [List.find?_eq_some_iff_getElem]
    refine ⟨by simpa [hitK] using h1, i, hlt, rfl, fun j hj => ?_⟩
    have := h2 j hj
    simpa [hitK] using this

def IdxRel (key : ByteArray) (ws : List Mt) (w0 : World) (g : Nat) (j : Value) (wr : World) : Prop :=
  ∃ n : Nat, j = .int .i64 n ∧ n ≤ ws.length ∧ g = ws.length - n ∧ (∀ x ∈ ws.take n, hitK key x = false) ∧ Below w0.heap.size w0 wr

theorem take_snoc_all {α : Type} {p : α → Prop} {l : List α} {n : Nat} {x : α} (hx : l[n]? = some x) (h : ∀ y ∈ l.take n, p y) (hp : p x) : ∀ y ∈ l.take (n + 1), p y := by
  have hlt := (List.getElem?_eq_some_iff.1 hx).1
  rw [List.take_succ_eq_append_getElem hlt, (List.getElem?_eq_some_iff.1 hx).2]
  intro y hy
  rcases List.mem_append.1 hy with hy | hy
  · exact h y hy
  · rw [List.mem_singleton] at hy
    rw [hy]
    exact hp

set_option maxHeartbeats 1000000 in
theorem index_calls (ao : Option Addr) (c : Nat) (ws : List Mt) (kb : Nat) (key : ByteArray) (w : World) (h : RowOf MtAt w ao ws.length ws) (hl : ws.length ≤ maxLen) (hk : w.cell? ⟨kb, 0, none⟩ = some (.string key)) :
    Calls Try.prog 23 #[.slice ao ws.length c, .func (.func 24) #[] #[.pointer (some ⟨kb, 0, none⟩)]] w fun e w' => e = .returned (.int .i64 (idxInt key ws)) ∧ Below w.heap.size w w' := by
  have hkl := World.block_lt_of_cell? w _ hk
  simp only at hkl
  unfold maxLen at hl
  have H := Lib.hid h
  clear h
  go_enter Try.func23, Try.ntmps23
  go_wp2_with fail
  go_loopg [8] ws.length (fun g j wr => IdxRel key ws w g j wr)
  case atStart => exact ⟨0, rfl, by omega, by omega, by simp, Below.refl _ _⟩
  case round =>
    obtain ⟨n, rfl, hn, rfl, h0, hb⟩ := hrel
    have H0 := Lib.hid h0
    have hs := hb.size
    have hkr : wr.cell? ⟨kb, 0, none⟩ = some (.string key) := by rw [hb.cell (by exact hkl)]; exact hk
    have Hkr := Lib.hid hkr
    clear h0 hkr
    by_cases hlt : n < ws.length
    · obtain ⟨b, off, m, rfl, hblt, hm, hat⟩ := H.out.get hlt
      obtain ⟨e0, e1, e2⟩ := hat
      rw [← hb.cell (by exact hblt)] at e0 e1 e2
      have Hm := Lib.hid hm
      have hlti : (n : Int) < (ws.length : Int) := by omega
      have Hb := Lib.hid hb
      clear hm hb hk
      by_cases hp : hitK key m = true
      · have Hp := Lib.hid hp
        clear hp
        go_wp2_with (go_at_call 24; refine (pred_calls m kb key _ Hkr.out).mono ?_; rintro e w1 ⟨rfl, hb1⟩; rw [show (m.k.toList == key.toList) = true from Hp.out])
        go_ret
        exact ⟨by rw [idxInt, idx_some Hm.out H0.out Hp.out]; rfl, Hb.out.trans (hb1.mono hs)⟩
      · have Hp := Lib.hid (show hitK key m = false by simpa using hp)
        clear hp
        go_wp2_with (go_at_call 24; refine (pred_calls m kb key _ Hkr.out).mono ?_; rintro e w1 ⟨rfl, hb1⟩; rw [show (m.k.toList == key.toList) = false from Hp.out])
        go_roundg (ws.length - (n + 1))
        case measure => omega
        case rel => exact ⟨n + 1, by go_num, by omega, rfl, take_snoc_all Hm.out H0.out Hp.out, Hb.out.trans (hb1.mono hs)⟩
    · have Hi := Lib.hid (show idxInt key ws = -1 by
        have h1 := H0.out
        rw [List.take_of_length_le (by omega)] at h1
        rw [idxInt, idx_none h1])
      have Hb := Lib.hid hb
      clear hb hk
      go_wp2_with fail
      go_ret
      exact ⟨by rw [Hi.out]; rfl, Hb.out⟩

end Go.Proofs.Ytghmjconljdapaa
