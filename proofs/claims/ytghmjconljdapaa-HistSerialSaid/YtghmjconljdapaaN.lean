/- The walk over large. -/
import Derived.Test.YtghmjconljdapaaL
namespace Go.Proofs.Ytghmjconljdapaa
open Go.RowKit

def bigR (r : Rd) : Bool := decide (100 < (r.k.size : Int)) || decide (100 < (r.v.size : Int))
def bigM (m : Mt) : Bool := decide (100 < (m.k.size : Int)) || decide (100 < (m.v.size : Int))
def bigT (x : Tx) : Bool := decide (20 < x.rs.length) || decide (20 < x.ws.length) || x.rs.any bigR || x.ws.any bigM
def largeL (l : List Tx) : Bool := decide (40 < l.length) || l.any bigT

def Small {α : Type} (p : α → Bool) (l : List α) (n : Nat) : Prop := ∀ j y, j < n → l[j]? = some y → p y = false

theorem Small.zero {α : Type} (p : α → Bool) (l : List α) : Small p l 0 := fun j y h => absurd h (by omega)
theorem Small.succ {α : Type} {p : α → Bool} {l : List α} {n : Nat} {x : α} (h : Small p l n) (hx : l[n]? = some x) (hf : p x = false) : Small p l (n + 1) := by
  intro j y hj hy
  by_cases e : j = n
  · subst e
    rw [hx] at hy
    cases hy
    exact hf
  · exact h j y (by omega) hy
theorem Small.all {α : Type} {p : α → Bool} {l : List α} (h : Small p l l.length) : l.any p = false := by
  rw [List.any_eq_false]
  intro x hx
  obtain ⟨i, hi, rfl⟩ := List.mem_iff_getElem.1 hx
  have := h i l[i] hi (by simp)
  rw [this]
  exact Bool.false_ne_true
theorem any_hit {α : Type} {p : α → Bool} {l : List α} {n : Nat} {x : α} (hx : l[n]? = some x) (hp : p x = true) : l.any p = true := List.any_eq_true.2 ⟨x, List.mem_of_getElem? hx, hp⟩

def LargeRel {α : Type} (p : α → Bool) (xs : List α) (w0 : World) (g : Nat) (i : Value) (wr : World) : Prop :=
  ∃ n : Nat, i = .int .i64 n ∧ n ≤ xs.length ∧ g = xs.length - n ∧ Small p xs n ∧ w0 = wr

set_option maxRecDepth 100000 in
set_option maxHeartbeats 4000000 in
theorem large_calls (ao : Option Addr) (c : Nat) (xs : List Tx) (w : World) (h : RowOf TxAt w ao xs.length xs) :
    Calls Try.prog 10 #[.slice ao xs.length c] w fun e w' => e = .returned (.bool (largeL xs)) ∧ w = w' := by
  have H := Lib.hid h
  clear h
  by_cases h40 : 40 < xs.length
  · have hi : 40 < (xs.length : Int) := by omega
    have Hf := Lib.hid (show largeL xs = true by unfold largeL; simp [h40])
    clear h40
    go_enter Try.func10, Try.ntmps10
    go_wp2_with fail
    go_ret
    exact ⟨by rw [Hf.out]; first | done | rfl, rfl⟩
  · have hi : ¬ 40 < (xs.length : Int) := by omega
    go_enter Try.func10, Try.ntmps10
    go_wp2_with fail
    go_loopg [11] xs.length (fun g i wr => LargeRel bigT xs w g i wr)
    case atStart => exact ⟨0, rfl, by omega, by omega, Small.zero _ _, rfl⟩
    case round =>
      obtain ⟨n, rfl, hn, rfl, hsm, rfl⟩ := hrel
      have Hsm := Lib.hid hsm
      clear hsm
      by_cases hlt : n < xs.length
      · obtain ⟨b, off, x, rfl, hblt, hx, e0, e1, ⟨ra, rc, e2, h3⟩, wa, wc, e4, h5⟩ := H.out.get hlt
        have H3 := Lib.hid h3
        have H5 := Lib.hid h5
        have Hx := Lib.hid hx
        have hlti : (n : Int) < (xs.length : Int) := by omega
        clear hx h3 h5
        by_cases hr : 20 < x.rs.length
        · have hri : 20 < (x.rs.length : Int) := by omega
          have Hf := Lib.hid (show largeL xs = true by unfold largeL; rw [any_hit Hx.out (by unfold bigT; simp [hr])]; simp)
          clear hr
          go_wp2_with fail
          go_ret
          exact ⟨by rw [Hf.out]; first | done | rfl, rfl⟩
        · by_cases hwl : 20 < x.ws.length
          · have hri : ¬ 20 < (x.rs.length : Int) := by omega
            have hwi : 20 < (x.ws.length : Int) := by omega
            have Hf := Lib.hid (show largeL xs = true by unfold largeL; rw [any_hit Hx.out (by unfold bigT; simp [hwl])]; simp)
            clear hr hwl
            go_wp2_with fail
            go_ret
            exact ⟨by rw [Hf.out]; first | done | rfl, rfl⟩
          · have hri : ¬ 20 < (x.rs.length : Int) := by omega
            have hwi : ¬ 20 < (x.ws.length : Int) := by omega
            go_wp2_with fail
            go_loopg [36] x.rs.length (fun g i w1 => LargeRel bigR x.rs w g i w1)
            case atStart => exact ⟨0, rfl, by omega, by omega, Small.zero _ _, rfl⟩
            case round =>
              obtain ⟨k, rfl, hk, rfl, hsm2, rfl⟩ := hrel
              have Hsm2 := Lib.hid hsm2
              clear hsm2
              by_cases hlt2 : k < x.rs.length
              · obtain ⟨b2, off2, r, rfl, hblt2, hr2, f0, f1, f2⟩ := H3.out.get hlt2
                have Hr := Lib.hid hr2
                have hlti2 : (k : Int) < (x.rs.length : Int) := by omega
                clear hr2
                by_cases hbk : 100 < (r.k.size : Int)
                · have Hf := Lib.hid (show largeL xs = true by unfold largeL; rw [any_hit Hx.out (by unfold bigT; rw [any_hit Hr.out (by unfold bigR; simp only [hbk, decide_true, Bool.true_or])]; simp)]; simp)
                  go_wp2_with fail
                  go_ret
                  exact ⟨by rw [Hf.out]; first | done | rfl, rfl⟩
                · by_cases hbv : 100 < (r.v.size : Int)
                  · have Hf := Lib.hid (show largeL xs = true by unfold largeL; rw [any_hit Hx.out (by unfold bigT; rw [any_hit Hr.out (by unfold bigR; simp only [hbv, decide_true, Bool.or_true])]; simp)]; simp)
                    go_wp2_with fail
                    go_ret
                    exact ⟨by rw [Hf.out]; first | done | rfl, rfl⟩
                  · have Hn := Lib.hid (Hsm2.out.succ Hr.out (by unfold bigR; simp only [hbk, hbv, decide_false, Bool.or_false]))
                    go_wp2_with fail
                    go_roundg (x.rs.length - (k + 1))
                    case measure => omega
                    case rel => exact ⟨k + 1, by go_num, by omega, rfl, Hn.out, rfl⟩
              · obtain rfl : k = x.rs.length := by omega
                have Hra := Lib.hid Hsm2.out.all
                go_wp2_with fail
                go_loopg [70] x.ws.length (fun g i w1 => LargeRel bigM x.ws w g i w1)
                case atStart => exact ⟨0, rfl, by omega, by omega, Small.zero _ _, rfl⟩
                case round =>
                  obtain ⟨p, rfl, hp, rfl, hsm3, rfl⟩ := hrel
                  have Hsm3 := Lib.hid hsm3
                  clear hsm3
                  by_cases hlt3 : p < x.ws.length
                  · obtain ⟨b3, off3, m, rfl, hblt3, hm3, g0, g1, g2⟩ := H5.out.get hlt3
                    have Hm := Lib.hid hm3
                    have hlti3 : (p : Int) < (x.ws.length : Int) := by omega
                    clear hm3
                    by_cases hbk : 100 < (m.k.size : Int)
                    · have Hf := Lib.hid (show largeL xs = true by unfold largeL; rw [any_hit Hx.out (by unfold bigT; rw [any_hit Hm.out (by unfold bigM; simp only [hbk, decide_true, Bool.true_or])]; simp)]; simp)
                      go_wp2_with fail
                      go_ret
                      exact ⟨by rw [Hf.out]; first | done | rfl, rfl⟩
                    · by_cases hbv : 100 < (m.v.size : Int)
                      · have Hf := Lib.hid (show largeL xs = true by unfold largeL; rw [any_hit Hx.out (by unfold bigT; rw [any_hit Hm.out (by unfold bigM; simp only [hbv, decide_true, Bool.or_true])]; simp)]; simp)
                        go_wp2_with fail
                        go_ret
                        exact ⟨by rw [Hf.out]; first | done | rfl, rfl⟩
                      · have Hn := Lib.hid (Hsm3.out.succ Hm.out (by unfold bigM; simp only [hbk, hbv, decide_false, Bool.or_false]))
                        go_wp2_with fail
                        go_roundg (x.ws.length - (p + 1))
                        case measure => omega
                        case rel => exact ⟨p + 1, by go_num, by omega, rfl, Hn.out, rfl⟩
                  · obtain rfl : p = x.ws.length := by omega
                    have Hwa := Lib.hid Hsm3.out.all
                    have Hn := Lib.hid (Hsm.out.succ Hx.out (by unfold bigT; rw [Hra.out, Hwa.out]; simp [hr, hwl]))
                    go_wp2_with fail
                    go_roundg (xs.length - (n + 1))
                    case measure => omega
                    case rel => exact ⟨n + 1, by go_num, by omega, rfl, Hn.out, rfl⟩
      · obtain rfl : n = xs.length := by omega
        have Hf := Lib.hid (show largeL xs = false by unfold largeL; rw [Hsm.out.all]; simp; omega)
        go_wp2_with fail
        go_ret
        exact ⟨by rw [Hf.out]; first | done | rfl, rfl⟩

end Go.Proofs.Ytghmjconljdapaa
