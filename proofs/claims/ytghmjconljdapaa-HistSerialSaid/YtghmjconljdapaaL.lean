/- The walk over Look. -/
import Derived.Test.YtghmjconljdapaaJ
namespace Go.Proofs.Ytghmjconljdapaa
open Go.RowKit

theorem look_results {pb : Nat} {f : Flt} {err : Int} {tmps : Array Value} {W : World} (hB : Blk W pb 27 (fltC f)) (h2 : tmps.getD 2 undef = .pointer (some ⟨pb, 0, none⟩)) (h3 : tmps.getD 3 undef = .int .i64 err) :
    (results Try.f11 tmps).run Try.prog W = .ok (.tuple #[fltV f, .int .i64 err]) W := by
  have v0 : W.cell? ⟨pb, 0, none⟩ = some (.int .i64 f.kind) := hB.cell 0
  have v1 : W.cell? ⟨pb, 1, none⟩ = some (.int .i64 f.first) := hB.cell 1
  have v2 : W.cell? ⟨pb, 2, none⟩ = some (.int .i64 f.second) := hB.cell 2
  have v3 : W.cell? ⟨pb, 3, none⟩ = some (.string f.key) := hB.cell 3
  simp only [Array.getD_eq_getD_getElem?] at h2 h3
  simp [results, Try.results11, go_sem, h2, h3, v0, v1, v2, v3, fltV]

/-- The four cells of what is wrong, laid. -/
theorem flt_set {pb : Nat} {f g : Flt} {W : World} (hB : Blk W pb 27 (fltC g)) :
    Blk ((((W.setCell ⟨pb, 0, none⟩ (.int .i64 f.kind)).setCell ⟨pb, 1, none⟩ (.int .i64 f.first)).setCell ⟨pb, 2, none⟩ (.int .i64 f.second)).setCell ⟨pb, 3, none⟩ (.string f.key)) pb 27 (fltC f) :=
  (((hB.set 0 _).set 1 _).set 2 _).set 3 _

theorem flt_below {B pb : Nat} {f : Flt} {w W : World} (h : Below B w W) (hp : B ≤ pb) :
    Below B w ((((W.setCell ⟨pb, 0, none⟩ (.int .i64 f.kind)).setCell ⟨pb, 1, none⟩ (.int .i64 f.first)).setCell ⟨pb, 2, none⟩ (.int .i64 f.second)).setCell ⟨pb, 3, none⟩ (.string f.key)) :=
  (((h.setCell (by exact hp) _).setCell (by exact hp) _).setCell (by exact hp) _).setCell (by exact hp) _

set_option maxHeartbeats 1000000 in
theorem look_panic {w w2 : World} {xs : List Tx} {f : Flt} {tmps : Array Value} (hF : Blk w2 w.heap.size 27 (fltC noFlt)) (hb : Below w.heap.size w w2) (hf : faultOf xs = f) (he : errOf xs = 0)
    (h2 : tmps.getD 2 undef = .pointer (some ⟨w.heap.size, 0, none⟩)) (h3 : tmps.getD 3 undef = .int .i64 0) :
    Leaves Try.prog Try.f11 tmps (fun e w' => e = Ending.returned (Value.tuple #[fltV (faultOf xs), Value.int IntKind.i64 (errOf xs)]) ∧ Below w.heap.size w w')
      [{ target := Target.fn (Fn.func 15) #[Value.pointer (some { block := w.heap.size, off := 0 })], args := #[] }] (.panicking [{ v := Value.iface 27 (fltV f), recovered := false }]) w2 := by
  refine leaves_cons (f := 15) (args := #[.pointer (some ⟨w.heap.size, 0, none⟩)]) (by simp) (by simp [go_sem]) ?_
  refine (catch_panicking w.heap.size f noFlt [] _ hF).mono ?_
  rintro e u' w'' ⟨rfl, rfl, rfl⟩
  exact ⟨_, look_results (flt_set (hF.alloc _)) h2 h3, by rw [hf, he], flt_below (up1 hb (Nat.le_refl _) _) (Nat.le_refl _)⟩

set_option maxHeartbeats 1000000 in
theorem look_calls (ao : Option Addr) (c : Nat) (xs : List Tx) (w : World) (h : RowOf TxAt w ao xs.length xs) (hs : Sized xs) :
    Calls Try.prog 11 #[.slice ao xs.length c] w fun e w' => e = .returned (.tuple #[fltV (faultOf xs), .int .i64 (errOf xs)]) ∧ Below w.heap.size w w' := by
  have hmf := @run_makeFunc
  have HS := Lib.hid hs
  have H := Lib.hid h
  clear h hs
  go_enter_defers Try.func11, Try.ntmps11
  go_wp2_with fail
  refine (mayL_calls _ _ xs _ (txs_below H.out (new1 w _)) HS.out).mono ?_
  rintro e w1 ⟨rfl, hb1⟩
  have hs1 := hb1.size
  simp at hs1
  have hl1 : w.heap.size < w1.heap.size := by omega
  have hF : Blk w1 w.heap.size 27 (fltC noFlt) := (Blk.new w 27 _).below hb1 (by simp)
  have v0 : w1.cell? ⟨w.heap.size, 0, none⟩ = some (.int .i64 0) := hF.cell 0
  have v1 : w1.cell? ⟨w.heap.size, 1, none⟩ = some (.int .i64 0) := hF.cell 1
  have v2 : w1.cell? ⟨w.heap.size, 2, none⟩ = some (.int .i64 0) := hF.cell 2
  have v3 : w1.cell? ⟨w.heap.size, 3, none⟩ = some (.string { data := #[] }) := hF.cell 3
  have f0 := hF.frozen 0
  have f1 := hF.frozen 1
  have f2 := hF.frozen 2
  have f3 := hF.frozen 3
  have HF := Lib.hid hF
  have Hb := Lib.hid (then_ (new1 w _) (Nat.le_refl _) hb1)
  have H1 := Lib.hid (txs_below H.out Hb.out)
  clear hF hb1
  cases hm : mayL xs with
  | false =>
    have Hf := Lib.hid (show faultOf xs = noFlt by unfold faultOf; rw [hm]; rfl)
    have He := Lib.hid (show errOf xs = 2 by unfold errOf; rw [hm]; rfl)
    clear hm
    go_wp2_with fail
    exact ⟨_, look_results (f := noFlt) (flt_set (f := noFlt) HF.out) rfl rfl, by rw [Hf.out, He.out], flt_below (f := noFlt) Hb.out (Nat.le_refl _)⟩
  | true =>
    have Hm := Lib.hid hm
    have He := Lib.hid (show errOf xs = 0 by unfold errOf; rw [hm]; rfl)
    clear hm
    go_wp2_with fail
    refine (stale_calls _ _ xs _ H1.out HS.out).mono ?_
    rintro e w2 ⟨hb2, hst⟩
    have HF2 := Lib.hid (HF.out.below hb2 hl1)
    have Hb2 := Lib.hid (then_ Hb.out (Nat.le_refl _) hb2)
    have H2 := Lib.hid (txs_below H1.out hb2)
    have hl2 : w.heap.size < w2.heap.size := HF2.out.lt
    clear hb2
    rcases hst with ⟨hst, rfl⟩ | ⟨f, hst, rfl⟩
    · have Hst := Lib.hid hst
      clear hst v0 v1 v2 v3 f0 f1 f2 f3
      go_wp2_with fail
      refine (lost_calls _ _ xs _ H2.out HS.out).mono ?_
      rintro e w3 ⟨hb3, hlo⟩
      have HF3 := Lib.hid (HF2.out.below hb3 hl2)
      have Hb3 := Lib.hid (then_ Hb2.out (Nat.le_refl _) hb3)
      clear hb3
      rcases hlo with ⟨hlo, rfl⟩ | ⟨f, hlo, rfl⟩
      · have Hf := Lib.hid (show faultOf xs = noFlt by unfold faultOf; rw [Hm.out, Hst.out, hlo]; rfl)
        have v0 : w3.cell? ⟨w.heap.size, 0, none⟩ = some (.int .i64 0) := HF3.out.cell 0
        have v1 : w3.cell? ⟨w.heap.size, 1, none⟩ = some (.int .i64 0) := HF3.out.cell 1
        have v2 : w3.cell? ⟨w.heap.size, 2, none⟩ = some (.int .i64 0) := HF3.out.cell 2
        have v3 : w3.cell? ⟨w.heap.size, 3, none⟩ = some (.string { data := #[] }) := HF3.out.cell 3
        have f0 := HF3.out.frozen 0
        have f1 := HF3.out.frozen 1
        have f2 := HF3.out.frozen 2
        have f3 := HF3.out.frozen 3
        clear hlo
        go_wp2_with fail
        refine leaves_cons (f := 15) (args := #[.pointer (some ⟨w.heap.size, 0, none⟩)]) (by simp) (by simp [go_sem]) ?_
        refine (catch_idle w.heap.size _).mono ?_
        rintro e u' w'' ⟨rfl, rfl, rfl⟩
        exact ⟨_, look_results (f := noFlt) (Blk.alloc (flt_set (f := noFlt) HF3.out) _) rfl rfl, by rw [Hf.out, He.out], up1 (flt_below (f := noFlt) Hb3.out (Nat.le_refl _)) (Nat.le_refl _) _⟩
      · have Hf := Lib.hid (show faultOf xs = f by unfold faultOf; rw [Hm.out, Hst.out, hlo]; rfl)
        clear hlo
        go_wp2_with fail
        exact look_panic HF3.out Hb3.out Hf.out He.out rfl rfl
    · have Hf := Lib.hid (show faultOf xs = f by unfold faultOf; rw [Hm.out, hst]; rfl)
      clear hst
      go_wp2_with fail
      exact look_panic HF2.out Hb2.out Hf.out He.out rfl rfl

end Go.Proofs.Ytghmjconljdapaa
