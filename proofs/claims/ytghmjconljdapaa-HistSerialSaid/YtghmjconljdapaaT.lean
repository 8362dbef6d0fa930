/- The walks over the comparison and the insertion sort. -/
import Derived.Test.YtghmjconljdapaaS
import Derived.Deep.QuietTactic
import Derived.BigQuiet
import Derived.Deep.RegionWith
import Derived.IntWalk
import Derived.BigRegion
namespace Go.Proofs.Ytghmjconljdapaa
open Go.RowKit

def cmpI (x y : Int) : Int := if x < y then -1 else if y < x then 1 else 0

theorem kap_of {xs : List Tx} {i : Int} {x : Tx} (h : xs[i.toNat]? = some x) : kap xs i = x.t := by unfold kap; rw [h]

/-- A quiet call behind draws that the walk has added up. -/
theorem quiet_more {P : Program} {f : FuncId} {args : Array Value} {w : World} {a n : Nat} {v : Value}
    (h : Calls P f args (w.drewN (a + n)) fun e w' => e = .returned v ∧ ∃ q, w' = (w.drewN (a + n)).drewN q) :
    Calls P f args (w.drewN (a + n)) fun e w'' => e = .returned v ∧ ∃ m, w'' = w.drewN (a + m) :=
  h.mono fun _ _ ⟨he, q, hq⟩ => ⟨he, n + q, by rw [hq, World.drewN_drewN, Nat.add_assoc]⟩

theorem quiet_first {P : Program} {f : FuncId} {args : Array Value} {w : World} {n : Nat} {v : Value}
    (h : Calls P f args (w.drewN n) fun e w' => e = .returned v ∧ ∃ q, w' = (w.drewN n).drewN q) :
    Calls P f args (w.drewN n) fun e w'' => e = .returned v ∧ ∃ m, w'' = w.drewN m :=
  h.mono fun _ _ ⟨he, q, hq⟩ => ⟨he, n + q, by rw [hq, World.drewN_drewN]⟩

set_option maxHeartbeats 1000000 in
theorem cmp_calls {w0 : World} {ao : Option Addr} {n c lb : Nat} {xs : List Tx} (X : Ctx w0 ao n c lb xs) (w : World) (hb : Below w0.heap.size w0 w) (i j : Int) (hi : 0 ≤ i ∧ i < n) (hj : 0 ≤ j ∧ j < n) :
    Calls Try.prog 20 #[.int .i64 i, .int .i64 j, .pointer (some ⟨lb, 0, none⟩)] w fun e w' => e = .returned (.int .i64 (cmpI (kap xs i) (kap xs j))) ∧ ∃ q, w' = w.drewN q := by
  obtain ⟨i, rfl⟩ : ∃ k : Nat, i = (k : Int) := ⟨i.toNat, by omega⟩
  obtain ⟨j, rfl⟩ : ∃ k : Nat, j = (k : Int) := ⟨j.toNat, by omega⟩
  have hi' : (i : Int) < (n : Int) := hi.2
  have hj' : (j : Int) < (n : Int) := hj.2
  have hlb := World.block_lt_of_cell? _ _ X.box
  have hbox : w.cell? ⟨lb, 0, none⟩ = some (.slice ao n c) := by rw [hb.cell (by exact hlb)]; exact X.box
  obtain ⟨b, off, x, rfl, hblt, hx, e0, e1, _⟩ := X.row.get (i := i) (by omega)
  obtain ⟨b', off', y, hbo, hblt', hy, f0, f1, _⟩ := X.row.get (i := j) (by omega)
  simp only [Option.some.injEq, Addr.mk.injEq, and_true] at hbo
  obtain ⟨rfl, rfl⟩ := hbo
  rw [← hb.cell (by exact hblt)] at e1 f1
  rw [kap_of (x := x) (by simpa using hx), kap_of (x := y) (by simpa using hy)]
  clear X hb e0 f0 hx hy hi hj
  by_cases h1 : x.t < y.t
  · have Hf := Lib.hid (show cmpI x.t y.t = -1 by unfold cmpI; rw [if_pos h1])
    go_enter Try.func20, Try.ntmps20
    go_wp2_with fail
    go_quiet (fail)
    go_wp2_with fail
    go_ret
    exact ⟨by rw [Hf.out]; first | done | rfl, _, by first | rfl | exact World.drewN_drewN _ _ _⟩
  · by_cases h2 : y.t < x.t
    · have Hf := Lib.hid (show cmpI x.t y.t = 1 by unfold cmpI; rw [if_neg h1, if_pos h2])
      go_enter Try.func20, Try.ntmps20
      go_wp2_with fail
      go_quiet (fail)
      go_wp2_with fail
      go_quiet (fail)
      go_wp2_with fail
      go_ret
      exact ⟨by rw [Hf.out]; first | done | rfl, _, by first | rfl | exact World.drewN_drewN _ _ _⟩
    · have Hf := Lib.hid (show cmpI x.t y.t = 0 by unfold cmpI; rw [if_neg h1, if_neg h2])
      go_enter Try.func20, Try.ntmps20
      go_wp2_with fail
      go_quiet (fail)
      go_wp2_with fail
      go_quiet (fail)
      go_wp2_with fail
      go_ret
      exact ⟨by rw [Hf.out]; first | done | rfl, _, by first | rfl | exact World.drewN_drewN _ _ _⟩

/-- Where a loop of the sort stands. -/
def Sorting (w0 : World) (n db m a b : Nat) (d : Nat → Int) (P : (Nat → Int) → Prop) (w : World) : Prop := ∃ d', Moved a b m d d' ∧ In w0 n db m d' w ∧ P d'

def InsOut (w0 : World) (n db m a b : Nat) (xs : List Tx) (d : Nat → Int) (g : Nat) (iv : Value) (w : World) : Prop :=
  ∃ i : Nat, iv = .int .i64 i ∧ a < i ∧ (i ≤ b ∨ i = a + 1) ∧ g = b - i ∧ Sorting w0 n db m a b d (fun d' => Upto (kd xs d') a i) w

def InsIn (w0 : World) (n db m a b i : Nat) (xs : List Tx) (d : Nat → Int) (g : Nat) (jv : Value) (w : World) : Prop :=
  ∃ j : Nat, jv = .int .i64 j ∧ j = g ∧ j ≤ i ∧ a ≤ j ∧ Sorting w0 n db m a b d (fun d' => Ins (kd xs d') a i j) w

/-- What a call of the sort leaves. -/
def Sorted (w0 : World) (n db m a b : Nat) (xs : List Tx) (d : Nat → Int) (e : Ending) (w : World) : Prop :=
  e = .returned (.tuple #[]) ∧ Sorting w0 n db m a b d (fun d' => Upto (kd xs d') a b) w

set_option maxRecDepth 100000 in
set_option maxHeartbeats 4000000 in
theorem insertion_calls {w0 : World} {ao : Option Addr} {n c lb : Nat} {xs : List Tx} (X : Ctx w0 ao n c lb xs) (da : Option Addr) (cap db m a b : Nat) (d : Nat → Int) (w : World) (hin : In w0 n db m d w)
    (hda : 0 < m → da = some ⟨db, 0, none⟩) (hab : a ≤ b) (hbm : b ≤ m) (hm : m ≤ 100) :
    Calls Try.prog 25 #[.slice da m cap, .int .i64 a, .int .i64 b, .func (.func 20) #[] #[.pointer (some ⟨lb, 0, none⟩)]] w (Sorted w0 n db m a b xs d) := by
  have HX := Lib.hid X
  have Hin := Lib.hid hin
  clear X hin
  go_enter Try.func25, Try.ntmps25
  go_wp2_with fail
  go_loopg [8] (b - (a + 1)) (fun g iv wr => InsOut w0 n db m a b xs d g iv wr)
  case atStart => exact ⟨a + 1, by go_num, by omega, by omega, rfl, d, Moved.refl _ _ _ _, Hin.out, fun i j h1 h2 h3 => by omega⟩
  case round =>
    obtain ⟨i, rfl, hai, hib, rfl, hS⟩ := hrel
    have HS := Lib.hid hS
    clear hS
    by_cases hlt : i < b
    · obtain ⟨w1, hw1⟩ : ∃ w1, w1 = wr := ⟨_, rfl⟩
      subst hw1
      have hda := hda (by omega)
      subst hda
      have hlti : (i : Int) < (b : Int) := by omega
      go_wp2_with fail
      go_loopg [9] i (fun g jv wr => InsIn w0 n db m a b i xs d g jv wr)
      case atStart =>
        obtain ⟨d', h1, h2, h3⟩ := HS.out
        exact ⟨i, rfl, rfl, by omega, by omega, d', h1, h2, Ins.start h3 (by omega)⟩
      case round =>
        obtain ⟨j, rfl, rfl, hji, haj, d', hmv, hin, hins⟩ := hrel
        have HM := Lib.hid hmv
        have HI := Lib.hid hin
        have Hins := Lib.hid hins
        clear hmv hin hins
        by_cases hja : j = a
        · obtain rfl : a = j := hja.symm
          have hg : decide ((a : Int) < (a : Int)) = false := by simp
          have HN := Lib.hid (Hins.out.stop (.inl rfl))
          go_wp2_with fail
          go_quiet (fail)
          go_wp2_with fail
          go_roundg (b - (i + 1))
          case measure => omega
          case rel => exact ⟨i + 1, by go_num, by omega, by omega, rfl, d', HM.out, HI.out.drewN _, HN.out⟩
        · have hg : (a : Int) < (j : Int) := by omega
          have hjb : (j : Int) < (m : Int) := by omega
          obtain ⟨p, hp⟩ : ∃ p, j - 1 = p := ⟨_, rfl⟩
          have hj1 : (p : Int) < (m : Int) := by omega
          have hpa : a ≤ p := by omega
          have hpj : p < j := by omega
          have r1 := HI.out.rng j (by omega)
          have r2 := HI.out.rng p (by omega)
          have c1 := HI.out.cells.cell (i := j) (by omega)
          have c2 := HI.out.cells.cell (i := p) (by omega)
          obtain ⟨u, hu⟩ : ∃ u, d' j = u := ⟨_, rfl⟩
          obtain ⟨v, hv⟩ : ∃ v, d' p = v := ⟨_, rfl⟩
          rw [hu] at r1 c1
          rw [hv] at r2 c2
          have Hu := Lib.hid hu
          have Hv := Lib.hid hv
          have Hp := Lib.hid hp
          have Hc := Lib.hid (fun q => cmp_calls HX.out (wr.drewN q) (below_drewN HI.out.bel q) u v r1 r2)
          clear hu hv r1 r2
          obtain ⟨cv, hcv⟩ : ∃ cv, cmpI (kap xs u) (kap xs v) = cv := ⟨_, rfl⟩
          rw [hcv] at Hc
          have Hcv := Lib.hid hcv
          have hwr : IntKind.i64.wrap ((j : Int) - 1) = (p : Int) := by rw [IntWalk.i64_in _ (by omega)]; omega
          clear hcv hp
          by_cases hneg : cv < 0
          · go_wp2_with fail
            go_quiet ((go_at_call 20; first | exact quiet_first (Hc.out _) | exact quiet_more (Hc.out _)))
            go_wp2_with fail
            generalize hW : wr.drewN nq = W
            have hIW : In w0 n db m d' W := by rw [← hW]; exact HI.out.drewN nq
            have k1 : W.cell? ⟨db, j, none⟩ = some (.int .i64 u) := by rw [← hW]; exact c1
            have k2 : W.cell? ⟨db, p, none⟩ = some (.int .i64 v) := by rw [← hW]; exact c2
            have z1 := hIW.cells.frozen (by omega) j
            have z2 := hIW.cells.frozen (by omega) p
            have hne : ¬ j = p := by have := Hp.out; omega
            have hne' : ¬ p = j := by have := Hp.out; omega
            have HIW := Lib.hid hIW
            clear hW hIW c1 c2
            have HS2 := Lib.hid (Ins.step Hins.out (by omega) (by rw [Hp.out]; unfold kd; rw [Hu.out, Hv.out]; have := Hcv.out; unfold cmpI at this; by_cases h : kap xs u < kap xs v; exact h; rw [if_neg h] at this; split at this <;> omega))
            have HI2 := Lib.hid (HIW.out.swap (i := j) (j := p) (by omega) (by omega))
            rw [Hp.out, ← kd_swap] at HS2
            rw [Hu.out, Hv.out] at HI2
            have HM2 := Lib.hid (HM.out.trans (Moved.swap d' (i := j) (j := p) (by omega) (by omega) (by omega) (by omega) hbm))
            go_region
            go_wp2_with fail
            go_roundg p
            case measure => omega
            case rel => exact ⟨p, rfl, rfl, by omega, by omega, _, HM2.out, HI2.out.drewN 1, HS2.out⟩
          · have hneg' : decide (cv < 0) = false := by simpa using hneg
            have HN := Lib.hid (Hins.out.stop (.inr (by rw [Hp.out]; unfold kd; rw [Hu.out, Hv.out]; have := Hcv.out; unfold cmpI at this; intro h; rw [if_pos h] at this; omega)))
            go_wp2_with fail
            go_quiet ((go_at_call 20; first | exact quiet_first (Hc.out _) | exact quiet_more (Hc.out _)))
            clear hwr
            go_wp2_with fail
            go_roundg (b - (i + 1))
            case measure => omega
            case rel => exact ⟨i + 1, by go_num, by omega, by omega, rfl, d', HM.out, HI.out.drewN _, HN.out⟩
    · obtain ⟨d', h1, h2, h3⟩ := HS.out
      have HF := Lib.hid (show Sorting w0 n db m a b d (fun d' => Upto (kd xs d') a b) wr from ⟨d', h1, h2, fun p q hp hpq hq => h3 p q hp hpq (by omega)⟩)
      clear h1 h2 h3
      go_wp2_with fail
      first | go_end0 | refine bodyPost_ret (results_none rfl _ _ _) rfl ?_
      exact ⟨rfl, HF.out⟩

end Go.Proofs.Ytghmjconljdapaa
