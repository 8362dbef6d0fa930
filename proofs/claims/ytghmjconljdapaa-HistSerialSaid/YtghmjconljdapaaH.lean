/- The walk over stale. -/
import Derived.Test.YtghmjconljdapaaG
namespace Go.Proofs.Ytghmjconljdapaa
open Go.RowKit

def fltV (f : Flt) : Value := .agg #[.int .i64 f.kind, .int .i64 f.first, .int .i64 f.second, .string f.key]

/-- Nothing is found, and the call returns; or it panics with what is found. -/
def Found (o : Option Flt) (w : World) (e : Ending) (w' : World) : Prop :=
  Below w.heap.size w w' ∧ ((o = none ∧ e = .returned (.tuple #[])) ∨ ∃ f, o = some f ∧ e = .panicked [{ v := .iface 27 (fltV f), recovered := false }])

def UpTo {α β : Type} (f : Nat → α → Option β) (l : List α) (n : Nat) : Prop := ∀ j y, j < n → l[j]? = some y → f j y = none

theorem UpTo.zero {α β : Type} (f : Nat → α → Option β) (l : List α) : UpTo f l 0 := fun j y h => absurd h (by omega)
theorem UpTo.succ {α β : Type} {f : Nat → α → Option β} {l : List α} {n : Nat} {x : α} (h : UpTo f l n) (hx : l[n]? = some x) (hf : f n x = none) : UpTo f l (n + 1) := by
  intro j y hj hy
  by_cases e : j = n
  · subst e
    rw [hx] at hy
    cases hy
    exact hf
  · exact h j y (by omega) hy
theorem UpTo.all {α β : Type} {f : Nat → α → Option β} {l : List α} (h : UpTo f l l.length) : scan f l = none := scan_none.2 fun i x hx => h i x (List.getElem?_eq_some_iff.1 hx).1 hx
theorem UpTo.hit {α β : Type} {f : Nat → α → Option β} {l : List α} {n : Nat} {x : α} {v : β} (h : UpTo f l n) (hx : l[n]? = some x) (hv : f n x = some v) : scan f l = some v := scan_some hx hv h

def StaleRel (xs : List Tx) (w0 : World) (g : Nat) (i : Value) (wr : World) : Prop :=
  ∃ n : Nat, i = .int .i64 n ∧ n ≤ xs.length ∧ g = xs.length - n ∧ UpTo (staleT xs) xs n ∧ Below w0.heap.size w0 wr

def StaleIn (xs : List Tx) (n : Nat) (x : Tx) (cs : Array Value) (B : Nat) (w0 : World) (g : Nat) (i : Value) (wr : World) : Prop :=
  ∃ k : Nat, i = .int .i64 k ∧ k ≤ x.rs.length ∧ g = x.rs.length - k ∧ (x.t ≠ 0 → UpTo (fun _ r => staleR xs n x r) x.rs k) ∧ Blk wr B 34 cs ∧ Below w0.heap.size w0 wr

theorem stale_hit {xs : List Tx} {n k : Nat} {x : Tx} {r : Rd} (h1 : UpTo (staleT xs) xs n) (hx : xs[n]? = some x) (ht : ¬ x.t = 0) (h2 : UpTo (fun _ r => staleR xs n x r) x.rs k) (hr : x.rs[k]? = some r) (hb : badR xs x r = true) : staleOf xs = some ⟨1, n, 0, r.k⟩ := by
  refine h1.hit hx ?_
  unfold staleT
  rw [if_neg ht]
  refine h2.hit hr ?_
  unfold staleR
  rw [if_pos hb]

set_option maxRecDepth 100000 in
set_option maxHeartbeats 4000000 in
theorem stale_calls (ao : Option Addr) (c : Nat) (xs : List Tx) (w : World) (h : RowOf TxAt w ao xs.length xs) (hs : Sized xs) :
    Calls Try.prog 16 #[.slice ao xs.length c] w (Found (staleOf xs) w) := by
  have hlen := hs.len
  have HS := Lib.hid hs
  have H := Lib.hid h
  clear h hs
  go_enter Try.func16, Try.ntmps16
  go_wp2_with fail
  go_loopg [10] xs.length (fun g i wr => StaleRel xs w g i wr)
  case atStart => exact ⟨0, rfl, by omega, by omega, UpTo.zero _ _, Below.refl _ _⟩
  case round =>
    obtain ⟨n, rfl, hn, rfl, hup, hb⟩ := hrel
    obtain ⟨w1, hw1⟩ : ∃ w1, w1 = wr := ⟨_, rfl⟩
    subst hw1
    have Hup := Lib.hid hup
    have hsz := hb.size
    clear hup
    by_cases hlt : n < xs.length
    · obtain ⟨b, off, x, rfl, hblt, hx, e0, e1, ⟨ra, rc, e2, h3⟩, wa, wc, e4, h5⟩ := H.out.get hlt
      rw [← hb.cell (by exact hblt)] at e0 e1 e2 e4
      have hxr := HS.out.rs x (List.mem_of_getElem? hx)
      have hxt := HS.out.tn x (List.mem_of_getElem? hx)
      have H3 := Lib.hid (rds_below h3 hb)
      have Hx := Lib.hid hx
      have hlti : (n : Int) < (xs.length : Int) := by omega
      have Hb := Lib.hid hb
      clear hx h3 h5 hb
      go_wp2_with fail
      clear e0 e1 e2 e4
      go_loopg [18] x.rs.length (fun g i w2 => StaleIn xs n x #[.int .u64 x.s, .int .u64 x.t, .slice ra x.rs.length rc, .slice wa x.ws.length wc] w1.heap.size w1 g i w2)
      case atStart => exact ⟨0, rfl, by omega, by omega, fun _ => UpTo.zero _ _, Blk.new _ _ _, new1 _ _⟩
      case round =>
        obtain ⟨k, rfl, hk, rfl, hup2, hX, hb1⟩ := hrel
        have Hup2 := Lib.hid hup2
        have hsz1 := hb1.size
        have hXlt := hX.lt
        have x0 : wr.cell? ⟨w1.heap.size, 0, none⟩ = some (.int .u64 x.s) := hX.cell 0
        have x1 : wr.cell? ⟨w1.heap.size, 1, none⟩ = some (.int .u64 x.t) := hX.cell 1
        have HX := Lib.hid hX
        clear hup2 hX
        by_cases hlt2 : k < x.rs.length
        · obtain ⟨b2, off2, r, rfl, hblt2, hr, f0, f1, f2⟩ := H3.out.get hlt2
          rw [← hb1.cell (by exact hblt2)] at f0 f1 f2
          have Hb1 := Lib.hid hb1
          have Hr := Lib.hid hr
          have hlti2 : (k : Int) < (x.rs.length : Int) := by omega
          clear hb1 hr
          by_cases ht : x.t = 0
          · rw [ht] at x1
            have Ht := Lib.hid ht
            clear ht
            go_wp2_with fail
            go_roundg (x.rs.length - (k + 1))
            case measure => omega
            case rel => exact ⟨k + 1, by go_num, by omega, rfl, fun h => absurd Ht.out h, HX.out.alloc _, up1 Hb1.out (Nat.le_refl _) _⟩
          · have hz : (x.t == 0) = false := by simpa using ht
            have Ht := Lib.hid ht
            have Hup3 := Lib.hid (Hup2.out ht)
            clear ht
            go_wp2_with fail
            refine (value_calls _ _ xs r.k x.s _ (txs_below H.out (up1 (then_ Hb.out (Nat.le_refl _) Hb1.out) (Nat.le_refl _) _)) HS.out).mono ?_
            rintro e w3 ⟨rfl, hb3⟩
            have hs3 := hb3.size
            simp at hs3
            have hR3 := (Blk.new wr 48 #[.string r.k, .string r.v, .bool r.i]).below hb3 (by simp)
            have g0 : w3.cell? ⟨wr.heap.size, 0, none⟩ = some (.string r.k) := hR3.cell 0
            have g1 : w3.cell? ⟨wr.heap.size, 1, none⟩ = some (.string r.v) := hR3.cell 1
            have g2 : w3.cell? ⟨wr.heap.size, 2, none⟩ = some (.bool r.i) := hR3.cell 2
            have hbb : Below wr.heap.size wr w3 := then_ (new1 _ _) (Nat.le_refl _) hb3
            have HX3 := Lib.hid (HX.out.below hbb hXlt)
            have Hb3 := Lib.hid (then_ Hb1.out (Nat.le_refl _) hbb)
            have hbad : badR xs x r = (((valueOf xs r.k x.s).isSome != r.i) || ((valueOf xs r.k x.s).isSome && !(((valueOf xs r.k x.s).getD { data := #[] }).toList == r.v.toList))) := rfl
            clear hR3 hb3 hbb
            generalize valueOf xs r.k x.s = vo at hbad ⊢
            cases hri : r.i with
            | false =>
              rw [hri] at g2 hbad
              cases vo with
              | none =>
                have Hn := Lib.hid (Hup3.out.succ Hr.out (show staleR xs n x r = none by unfold staleR; rw [hbad]; rfl))
                clear hbad
                go_wp2_with fail
                go_roundg (x.rs.length - (k + 1))
                case measure => omega
                case rel => exact ⟨k + 1, by go_num, by omega, rfl, fun _ => Hn.out, HX3.out, Hb3.out⟩
              | some v =>
                have Hf := Lib.hid (stale_hit Hup.out Hx.out Ht.out Hup3.out Hr.out (by rw [hbad]; rfl))
                clear hbad
                go_wp2_with fail
                exact ⟨rfl, then_ Hb.out (Nat.le_refl _) Hb3.out, .inr ⟨_, Hf.out, rfl⟩⟩
            | true =>
              rw [hri] at g2 hbad
              cases vo with
              | none =>
                have Hf := Lib.hid (stale_hit Hup.out Hx.out Ht.out Hup3.out Hr.out (by rw [hbad]; rfl))
                clear hbad
                go_wp2_with fail
                exact ⟨rfl, then_ Hb.out (Nat.le_refl _) Hb3.out, .inr ⟨_, Hf.out, rfl⟩⟩
              | some v =>
                by_cases hv : (v.toList == r.v.toList) = true
                · have Hn := Lib.hid (Hup3.out.succ Hr.out (show staleR xs n x r = none by unfold staleR; rw [hbad]; simp [hv]))
                  clear hbad
                  go_wp2_with fail
                  go_roundg (x.rs.length - (k + 1))
                  case measure => omega
                  case rel => exact ⟨k + 1, by go_num, by omega, rfl, fun _ => Hn.out, HX3.out, Hb3.out⟩
                · have hv' : (v.toList == r.v.toList) = false := by simpa using hv
                  have Hf := Lib.hid (stale_hit Hup.out Hx.out Ht.out Hup3.out Hr.out (by rw [hbad]; simp [hv']))
                  clear hbad hv
                  go_wp2_with fail
                  exact ⟨rfl, then_ Hb.out (Nat.le_refl _) Hb3.out, .inr ⟨_, Hf.out, rfl⟩⟩
        · obtain rfl : k = x.rs.length := by omega
          have Hn := Lib.hid (Hup.out.succ Hx.out (show staleT xs n x = none by
            unfold staleT
            by_cases ht : x.t = 0
            · rw [if_pos ht]
            · rw [if_neg ht]; exact (Hup2.out ht).all))
          have Hb1 := Lib.hid hb1
          clear hb1
          go_wp2_with fail
          go_roundg (xs.length - (n + 1))
          case measure => omega
          case rel => exact ⟨n + 1, by go_num, by omega, rfl, Hn.out, then_ Hb.out (Nat.le_refl _) Hb1.out⟩
    · obtain rfl : n = xs.length := by omega
      have Hf := Lib.hid Hup.out.all
      have Hb := Lib.hid hb
      clear hb
      go_wp2_with fail
      first | go_end0 | refine bodyPost_ret (results_none rfl _ _ _) rfl ?_
      exact ⟨Hb.out, .inl ⟨Hf.out, rfl⟩⟩

end Go.Proofs.Ytghmjconljdapaa
