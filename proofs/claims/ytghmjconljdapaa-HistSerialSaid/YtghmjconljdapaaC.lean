/- The walk over wrote. -/
import Derived.Test.YtghmjconljdapaaB
import Derived.Test.YtghmjconljdapaaK
namespace Go.Proofs.Ytghmjconljdapaa
open Go.RowKit

def mk : Option Mt → ByteArray | none => { data := #[] } | some m => m.k
def mc : Option Mt → Int | none => 0 | some m => m.c
def mv : Option Mt → ByteArray | none => { data := #[] } | some m => m.v

/-- A write's value, of what may not be. -/
def mtV (o : Option Mt) : Value := .agg #[.string (mk o), .int .i64 (mc o), .string (mv o)]

theorem run_makeFunc (fn : Fn) (first cap : Array Value) (w : World) : (Instr.makeFunc fn first cap).run Try.prog w = .ok (.func fn first cap) w := rfl

theorem mts_below {w w' : World} {ao : Option Addr} {n : Nat} {xs : List Mt} (h : RowOf MtAt w ao n xs) (hb : Below w.heap.size w w') : RowOf MtAt w' ao n xs := RowOf.below (At := MtAt) (fun _ _ _ _ _ _ h => MtAt.below h) h hb
theorem rds_below {w w' : World} {ao : Option Addr} {n : Nat} {xs : List Rd} (h : RowOf RdAt w ao n xs) (hb : Below w.heap.size w w') : RowOf RdAt w' ao n xs := RowOf.below (At := RdAt) (fun _ _ _ _ _ _ h => RdAt.below h) h hb
theorem txs_below {w w' : World} {ao : Option Addr} {n : Nat} {xs : List Tx} (h : RowOf TxAt w ao n xs) (hb : Below w.heap.size w w') : RowOf TxAt w' ao n xs := RowOf.below (At := TxAt) (fun _ _ _ _ _ _ h => TxAt.below h) h hb

set_option maxHeartbeats 1000000 in
theorem wrote_calls (s t : Int) (rv : Value) (wa : Option Addr) (wc : Nat) (ws : List Mt) (key : ByteArray) (w : World) (h : RowOf MtAt w wa ws.length ws) (hl : ws.length ≤ maxLen) (ra : Option Addr) (rn rc : Nat) (hrv : rv = .slice ra rn rc) :
    Calls Try.prog 21 #[.agg #[.int .u64 s, .int .u64 t, rv, .slice wa ws.length wc], .string key] w fun e w' =>
      e = .returned (.tuple #[mtV (wroteOf key ws), .bool (wroteOf key ws).isSome]) ∧ Below w.heap.size w w' := by
  subst hrv
  have hmf := @run_makeFunc
  have H := Lib.hid h
  clear h
  go_enter Try.func21, Try.ntmps21
  go_wp2_with fail
  refine (index_calls wa wc ws _ key _ ?_ hl ?_).mono ?_
  · exact mts_below H.out (new3 w _ _ _)
  · simp [go_sem]
  rintro e w1 ⟨rfl, hb1⟩
  have hb : Below w.heap.size w w1 := then_ (new3 w _ _ _) (Nat.le_refl _) hb1
  have H1 := Lib.hid (mts_below H.out hb)
  have Hb := Lib.hid hb
  have B0 : Blk w1 w.heap.size 34 #[.int .u64 s, .int .u64 t, .slice ra rn rc, .slice wa ws.length wc] := (((Blk.new w _ _).alloc _).alloc _).below hb1 (by simp; omega)
  have B2 : Blk w1 (w.heap.size + 1 + 1) 40 #[.string { data := #[] }, .int .i64 0, .string { data := #[] }] := by
    have h := Blk.new ((w.alloc (.cells #[.int .u64 s, .int .u64 t, .slice ra rn rc, .slice wa ws.length wc] 34)).alloc (.cells #[.string key] 9)) 40 #[.string { data := #[] }, .int .i64 0, .string { data := #[] }]
    simp only [World.size_alloc] at h
    exact h.below hb1 (by simp)
  have c3 : w1.cell? ⟨w.heap.size, 3, none⟩ = some (.slice wa ws.length wc) := B0.cell 3
  have d0 : w1.cell? ⟨w.heap.size + 1 + 1, 0, none⟩ = some (.string { data := #[] }) := B2.cell 0
  have d1 : w1.cell? ⟨w.heap.size + 1 + 1, 1, none⟩ = some (.int .i64 0) := B2.cell 1
  have d2 : w1.cell? ⟨w.heap.size + 1 + 1, 2, none⟩ = some (.string { data := #[] }) := B2.cell 2
  have f0 := B2.frozen 0
  have f1 := B2.frozen 1
  have f2 := B2.frozen 2
  clear B0 B2 hb hb1
  rcases idx_wrote key ws with ⟨hi, hw⟩ | ⟨i, m, hi, hm, hw⟩
  · rw [show idxInt key ws = -1 by rw [idxInt, hi]]
    have Hw := Lib.hid hw
    clear hw hi
    go_wp2_with fail
    refine bodyPost_ret (v := .tuple #[mtV none, .bool false]) (by simp [results, Try.results21, go_sem, mtV, mk, mc, mv, d0, d1, d2]) rfl ⟨by rw [Hw.out]; rfl, ?_⟩
    exact ((Hb.out.setCell (by simp; omega) _).setCell (by simp; omega) _).setCell (by simp; omega) _
  · rw [show idxInt key ws = i by rw [idxInt, hi]]
    have Hw := Lib.hid hw
    clear hw hi
    obtain ⟨b, off, m', rfl, hblt, hm', e0, e1, e2⟩ := H1.out.get (List.getElem?_eq_some_iff.1 hm).1
    obtain rfl : m = m' := Option.some.inj (hm.symm.trans hm')
    have hlti : (i : Int) < (ws.length : Int) := by have := (List.getElem?_eq_some_iff.1 hm).1; omega
    clear hm hm'
    go_wp2_with fail
    refine bodyPost_ret (v := .tuple #[mtV (some m), .bool true]) (by simp [results, Try.results21, go_sem, mtV, mk, mc, mv, d0, d1, d2]) rfl ⟨by rw [Hw.out]; rfl, ?_⟩
    exact ((Hb.out.setCell (by simp; omega) _).setCell (by simp; omega) _).setCell (by simp; omega) _

end Go.Proofs.Ytghmjconljdapaa
