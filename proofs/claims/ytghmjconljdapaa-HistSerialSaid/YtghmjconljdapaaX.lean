/- The walk over HistSaw. -/
import Derived.Test.YtghmjconljdapaaW
namespace Go.Proofs.Ytghmjconljdapaa
open Go.RowKit

/-- A loop that only counts. -/
def Count (len : Nat) (w0 : World) (g : Nat) (i : Value) (wr : World) : Prop := ∃ n : Nat, i = .int .i64 n ∧ n ≤ len ∧ g = len - n ∧ Below w0.heap.size w0 wr

def CountBlk (len B : Nat) (cs : Array Value) (w0 : World) (g : Nat) (i : Value) (wr : World) : Prop := ∃ n : Nat, i = .int .i64 n ∧ n ≤ len ∧ g = len - n ∧ Blk wr B 40 cs ∧ Below w0.heap.size w0 wr

set_option maxRecDepth 100000 in
set_option maxHeartbeats 8000000 in
theorem saw_calls (ao : Option Addr) (c : Nat) (xs : List Tx) (w : World) (h : RowOf TxAt w ao xs.length xs) (hn : ∀ x ∈ xs, 0 ≤ x.t) :
    Calls Try.prog 6 #[.slice ao xs.length c] w fun e w' => e = .returned (.bool true) ∧ Below w.heap.size w w' := by
  have H := Lib.hid h
  have Hn := Lib.hid hn
  clear h hn
  go_enter Try.func6, Try.ntmps6
  go_wp2_with fail
  refine (awake_calls _).mono ?_
  rintro e w1 ⟨rfl, hb1⟩
  have H1 := Lib.hid (txs_below H.out hb1)
  have Hb1 := Lib.hid hb1
  clear hb1
  go_wp2_with fail
  refine (large_calls _ _ xs _ H1.out).mono ?_
  rintro e w1 ⟨rfl, rfl⟩
  cases hl : largeL xs with
  | true =>
    clear hl
    go_wp2_with fail
    go_ret
    exact ⟨rfl, Hb1.out⟩
  | false =>
    obtain ⟨hsz, h40⟩ := sized_of hl Hn.out
    have HS := Lib.hid hsz
    clear hl hsz
    go_wp2_with fail
    refine (look_calls _ _ xs _ H1.out HS.out).mono ?_
    rintro e w2 ⟨rfl, hb2⟩
    have H2 := Lib.hid (txs_below H1.out hb2)
    have Hb2 := Lib.hid (then_ Hb1.out (Nat.le_refl _) hb2)
    clear hb2
    rcases look_ways xs with ⟨hm, hf, he⟩ | ⟨hm, he, ⟨hs, hl, hf⟩ | ⟨f, hs, hf⟩ | ⟨f, hs, hl, hf⟩⟩
    · rw [hf, he]
      clear hm hf he
      unfold fltV noFlt
      go_wp2_with fail
      go_ret
      exact ⟨rfl, up1 Hb2.out (Nat.le_refl _) _⟩
    · rw [hf, he]
      have Hmay := Lib.hid hm
      have Hlo := Lib.hid hl
      clear hm hf he hs hl
      unfold fltV noFlt
      go_wp2_with fail
      go_loopg [29] xs.length (fun g i wr => Count xs.length w g i wr)
      case atStart => exact ⟨0, rfl, by omega, by omega, up1 Hb2.out (Nat.le_refl _) _⟩
      case round =>
        obtain ⟨n, rfl, hn, rfl, hb⟩ := hrel
        obtain ⟨w4, hw4⟩ : ∃ w4, w4 = wr := ⟨_, rfl⟩
        subst hw4
        have Hb := Lib.hid hb
        clear hb
        by_cases hlt : n < xs.length
        · have hlti : (n : Int) < (xs.length : Int) := by omega
          go_wp2_with fail
          go_loopg [34] xs.length (fun g i wr => Count xs.length w g i wr)
          case atStart => exact ⟨0, rfl, by omega, by omega, Hb.out⟩
          case round =>
            obtain ⟨k, rfl, hk, rfl, hbk⟩ := hrel
            obtain ⟨w5, hw5⟩ : ∃ w5, w5 = wr := ⟨_, rfl⟩
            subst hw5
            have Hbk := Lib.hid hbk
            clear hbk
            by_cases hltk : k < xs.length
            · have hltki : (k : Int) < (xs.length : Int) := by omega
              by_cases hnk : n = k
              · have hnkb : ((n : Int) == (k : Int)) = true := by simp [hnk]
                have Hnk := Lib.hid hnk
                clear hnk
                go_wp2_with fail
                go_roundg (xs.length - (k + 1))
                case measure => omega
                case rel => exact ⟨k + 1, by go_num, by omega, rfl, Hbk.out⟩
              · have hnkb : ((n : Int) == (k : Int)) = false := by simp; omega
                obtain ⟨b, off, x, rfl, hblt, hx, e0, e1, ⟨ra, rc, e2, g3⟩, wa, wc, e4, g5⟩ := H.out.get hlt
                obtain ⟨b', off', y, hbo, hblt', hy, f0, f1, ⟨ra2, rc2, f2, k3⟩, wa2, wc2, f4, k5⟩ := H.out.get hltk
                simp only [Option.some.injEq, Addr.mk.injEq, and_true] at hbo
                obtain ⟨rfl, rfl⟩ := hbo
                have Hx := Lib.hid hx
                have Hy := Lib.hid hy
                have E0 := Lib.hid e0
                have E1 := Lib.hid e1
                have F0 := Lib.hid f0
                have F1 := Lib.hid f1
                have E4 := Lib.hid e4
                have F4 := Lib.hid f4
                have G5 := Lib.hid g5
                have K5 := Lib.hid k5
                rw [← Hbk.out.cell (by exact hblt)] at e0 e1 e4 f0 f1 f4
                have hxw := HS.out.ws x (List.mem_of_getElem? hx)
                have hyw := HS.out.ws y (List.mem_of_getElem? hy)
                have Hnk := Lib.hid hnk
                clear hnk hx hy e2 f2 g3 g5 k3 k5
                by_cases hx0 : x.t = 0
                · have hx0b : (x.t == 0) = true := by simp [hx0]
                  clear hx0
                  go_wp2_with fail
                  go_roundg (xs.length - (k + 1))
                  case measure => omega
                  case rel => exact ⟨k + 1, by go_num, by omega, rfl, Hbk.out⟩
                · by_cases hy0 : y.t = 0
                  · have hx0b : (x.t == 0) = false := by simpa using hx0
                    have hy0b : (y.t == 0) = true := by simp [hy0]
                    clear hx0 hy0
                    go_wp2_with fail
                    go_roundg (xs.length - (k + 1))
                    case measure => omega
                    case rel => exact ⟨k + 1, by go_num, by omega, rfl, Hbk.out⟩
                  · have hx0b : (x.t == 0) = false := by simpa using hx0
                    have hy0b : (y.t == 0) = false := by simpa using hy0
                    have Hx0 := Lib.hid hx0
                    have Hy0 := Lib.hid hy0
                    clear hx0 hy0
                    go_wp2_with fail
                    clear e0 e1 e4 f0 f1 f4
                    go_loopg [62] x.ws.length (fun g i wr => Count x.ws.length w g i wr)
                    case atStart => exact ⟨0, rfl, by omega, by omega, Hbk.out⟩
                    case round =>
                      obtain ⟨p, rfl, hp, rfl, hbp⟩ := hrel
                      obtain ⟨w6, hw6⟩ : ∃ w6, w6 = wr := ⟨_, rfl⟩
                      subst hw6
                      have Hbp := Lib.hid hbp
                      clear hbp
                      by_cases hltp : p < x.ws.length
                      · obtain ⟨b3, off3, m, rfl, hblt3, hm, m0, m1, m2⟩ := G5.out.get hltp
                        have Hm := Lib.hid (List.mem_of_getElem? hm)
                        have f4 := F4.out
                        rw [← Hbp.out.cell (by exact hblt)] at f4
                        rw [← Hbp.out.cell (by exact hblt3)] at m0 m1 m2
                        have hb6 : b < w6.heap.size := Nat.lt_of_lt_of_le hblt Hbp.out.size
                        have hltpi : (p : Int) < (x.ws.length : Int) := by omega
                        clear hm
                        go_wp2_with fail
                        clear f4 m0 m1 m2
                        go_loopg [72] y.ws.length (fun g i wr => CountBlk y.ws.length w6.heap.size #[.string m.k, .int .i64 m.c, .string m.v] w g i wr)
                        case atStart => exact ⟨0, rfl, by omega, by omega, Blk.new _ _ _, up1 Hbp.out (Nat.le_refl _) _⟩
                        case round =>
                          obtain ⟨q, rfl, hq, rfl, hB, hbq⟩ := hrel
                          have Hbq := Lib.hid hbq
                          have HB := Lib.hid hB
                          clear hbq hB
                          by_cases hltq : q < y.ws.length
                          · obtain ⟨b4, off4, u, rfl, hblt4, hu, u0, u1, u2⟩ := K5.out.get hltq
                            have Hu := Lib.hid (List.mem_of_getElem? hu)
                            have e0 := E0.out
                            have e1 := E1.out
                            have f0 := F0.out
                            have f1 := F1.out
                            rw [← Hbq.out.cell (by exact hblt)] at e0 e1 f0 f1
                            rw [← Hbq.out.cell (by exact hblt4)] at u0 u1 u2
                            have k0 : wr.cell? ⟨w6.heap.size, 0, none⟩ = some (.string m.k) := HB.out.cell 0
                            have k1 := HB.out.lt
                            have hb7 : b < wr.heap.size := Nat.lt_of_lt_of_le hblt Hbq.out.size
                            have hltqi : (q : Int) < (y.ws.length : Int) := by omega
                            have Hnew := Lib.hid (up1 Hbq.out (Nat.le_refl _) (.cells #[.string u.k, .int .i64 u.c, .string u.v] 40))
                            have HBnew := Lib.hid (HB.out.alloc (.cells #[.string u.k, .int .i64 u.c, .string u.v] 40))
                            clear hu
                            go_wp2_with fail
                            by_cases hkk : (m.k.toList == u.k.toList) = true
                            · by_cases h3 : x.s < y.t
                              · have h4 : decide (y.s < x.t) = false := decide_eq_false (saw_law Hmay.out Hlo.out Hn.out Hx.out Hy.out Hnk.out Hx0.out Hy0.out Hm.out Hu.out hkk h3)
                                go_quiet (fail)
                                go_wp2_with fail
                                go_roundg (y.ws.length - (q + 1))
                                case measure => omega
                                case rel => exact ⟨q + 1, by go_num, by omega, rfl, HBnew.out.drewN _, below_drewN Hnew.out _⟩
                              · have h3' : decide (x.s < y.t) = false := decide_eq_false h3
                                clear h3
                                go_quiet (fail)
                                go_wp2_with fail
                                go_roundg (y.ws.length - (q + 1))
                                case measure => omega
                                case rel => exact ⟨q + 1, by go_num, by omega, rfl, HBnew.out.drewN _, below_drewN Hnew.out _⟩
                            · have hkk' : (m.k.toList == u.k.toList) = false := by simpa using hkk
                              clear hkk
                              go_quiet (fail)
                              go_wp2_with fail
                              go_roundg (y.ws.length - (q + 1))
                              case measure => omega
                              case rel => exact ⟨q + 1, by go_num, by omega, rfl, HBnew.out.drewN _, below_drewN Hnew.out _⟩
                          · go_wp2_with fail
                            go_roundg (x.ws.length - (p + 1))
                            case measure => omega
                            case rel => exact ⟨p + 1, by go_num, by omega, rfl, Hbq.out⟩
                      · go_wp2_with fail
                        go_roundg (xs.length - (k + 1))
                        case measure => omega
                        case rel => exact ⟨k + 1, by go_num, by omega, rfl, Hbp.out⟩
            · go_wp2_with fail
              go_roundg (xs.length - (n + 1))
              case measure => omega
              case rel => exact ⟨n + 1, by go_num, by omega, rfl, Hbk.out⟩
        · go_wp2_with fail
          go_ret
          exact ⟨rfl, Hb.out⟩
    · obtain ⟨i, x, r, _, _, _, _, rfl⟩ := stale_kind hs
      rw [hf, he]
      clear hm hf he hs
      unfold fltV
      go_wp2_with fail
      go_ret
      exact ⟨rfl, up1 Hb2.out (Nat.le_refl _) _⟩
    · obtain ⟨i, j, x, y, m, _, _, _, _, _, _, rfl⟩ := lost_kind hl
      rw [hf, he]
      clear hm hf he hs hl
      unfold fltV
      go_wp2_with fail
      go_ret
      exact ⟨rfl, up1 Hb2.out (Nat.le_refl _) _⟩

end Go.Proofs.Ytghmjconljdapaa
