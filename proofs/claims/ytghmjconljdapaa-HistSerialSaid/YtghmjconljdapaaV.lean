/- What awake asks: small histories. -/
import Derived.Test.YtghmjconljdapaaU
namespace Go.Proofs.Ytghmjconljdapaa
open Go.RowKit

def sA : ByteArray := { data := #[97] }
def sX : ByteArray := { data := #[120] }
def sE : ByteArray := { data := #[] }
def axM : Mt := ⟨sA, 1, sX⟩
def h1 : List Tx := [⟨1, 3, [], [axM]⟩, ⟨2, 4, [], [axM]⟩]
def h2 : List Tx := [⟨1, 2, [], [axM]⟩, ⟨3, 4, [⟨sA, sE, false⟩], []⟩]
def h3 : List Tx := [⟨1, 2, [], [axM]⟩, ⟨3, 4, [⟨sA, sX, true⟩], [axM]⟩]
def h4 : List Tx := [⟨0, 0, [], []⟩]
def h5 : List Tx := [⟨2, 4, [], [axM]⟩, ⟨9, 0, [], []⟩, ⟨1, 3, [], [axM]⟩]

theorem f1 : faultOf h1 = ⟨2, 1, 0, sA⟩ ∧ errOf h1 = 0 := by constructor <;> kernel_rfl
theorem f2 : faultOf h2 = ⟨1, 1, 0, sA⟩ ∧ errOf h2 = 0 := by constructor <;> kernel_rfl
theorem f3 : faultOf h3 = noFlt ∧ errOf h3 = 0 := by constructor <;> kernel_rfl
theorem f4 : errOf h4 = 2 := by rfl
theorem v1 : valueOf h1 sA 3 = some sX := by kernel_rfl
theorem v2 : valueOf h1 sA 2 = none := by kernel_rfl
theorem m1 : mayL h1 = true := by rfl
theorem o5 : commTo h5 h5.length = [0, 2] ∧ kap h5 0 = 4 ∧ kap h5 2 = 3 := by refine ⟨rfl, rfl, rfl⟩

theorem sized1 : Sized h1 := ⟨by decide, by decide, by decide, by decide⟩
theorem sized2 : Sized h2 := ⟨by decide, by decide, by decide, by decide⟩
theorem sized3 : Sized h3 := ⟨by decide, by decide, by decide, by decide⟩
theorem sized4 : Sized h4 := ⟨by decide, by decide, by decide, by decide⟩
theorem sized5 : Sized h5 := ⟨by decide, by decide, by decide, by decide⟩

/-! ### Rows laid down cell by cell -/
def mtCs (m : Mt) : List Value := [.string m.k, .int .i64 m.c, .string m.v]
def rdCs (r : Rd) : List Value := [.string r.k, .string r.v, .bool r.i]

theorem row_mt1 {w : World} {b : Nat} {m : Mt} (h : Blk w b 40 #[.string m.k, .int .i64 m.c, .string m.v]) : RowOf MtAt w (some ⟨b, 0, none⟩) 1 [m] := by
  refine ⟨rfl, fun _ => ⟨b, 0, rfl, h.lt, fun i x hx => ?_⟩⟩
  match i, hx with
  | 0, hx => cases hx; exact ⟨h.cell 0, h.cell 1, h.cell 2⟩

theorem row_rd1 {w : World} {b : Nat} {r : Rd} (h : Blk w b 48 #[.string r.k, .string r.v, .bool r.i]) : RowOf RdAt w (some ⟨b, 0, none⟩) 1 [r] := by
  refine ⟨rfl, fun _ => ⟨b, 0, rfl, h.lt, fun i x hx => ?_⟩⟩
  match i, hx with
  | 0, hx => cases hx; exact ⟨h.cell 0, h.cell 1, h.cell 2⟩

theorem row_mt0 {w : World} {ao : Option Addr} : RowOf MtAt w ao 0 [] := ⟨rfl, fun h => by omega⟩
theorem row_rd0 {w : World} {ao : Option Addr} : RowOf RdAt w ao 0 [] := ⟨rfl, fun h => by omega⟩

/-- A transaction's four cells. -/
def TxIs (w : World) (x : Tx) (c0 c1 c2 c3 : Value) : Prop :=
  c0 = .int .u64 x.s ∧ c1 = .int .u64 x.t ∧ (∃ ra rc, c2 = .slice ra x.rs.length rc ∧ RowOf RdAt w ra x.rs.length x.rs) ∧ ∃ wa wc, c3 = .slice wa x.ws.length wc ∧ RowOf MtAt w wa x.ws.length x.ws

theorem row_tx1 {w : World} {b : Nat} {x : Tx} {c0 c1 c2 c3 : Value} (h : Blk w b 34 #[c0, c1, c2, c3]) (hx : TxIs w x c0 c1 c2 c3) : RowOf TxAt w (some ⟨b, 0, none⟩) 1 [x] := by
  obtain ⟨rfl, rfl, ⟨ra, rc, rfl, hr⟩, wa, wc, rfl, hw⟩ := hx
  refine ⟨rfl, fun _ => ⟨b, 0, rfl, h.lt, fun i y hy => ?_⟩⟩
  match i, hy with
  | 0, hy => cases hy; exact ⟨h.cell 0, h.cell 1, ⟨ra, rc, h.cell 2, hr⟩, wa, wc, h.cell 3, hw⟩

theorem row_tx2 {w : World} {b : Nat} {x y : Tx} {c0 c1 c2 c3 d0 d1 d2 d3 : Value} (h : Blk w b 34 #[c0, c1, c2, c3, d0, d1, d2, d3]) (hx : TxIs w x c0 c1 c2 c3) (hy : TxIs w y d0 d1 d2 d3) : RowOf TxAt w (some ⟨b, 0, none⟩) 2 [x, y] := by
  obtain ⟨rfl, rfl, ⟨ra, rc, rfl, hr⟩, wa, wc, rfl, hw⟩ := hx
  obtain ⟨rfl, rfl, ⟨ra', rc', rfl, hr'⟩, wa', wc', rfl, hw'⟩ := hy
  refine ⟨rfl, fun _ => ⟨b, 0, rfl, h.lt, fun i z hz => ?_⟩⟩
  match i, hz with
  | 0, hz => cases hz; exact ⟨h.cell 0, h.cell 1, ⟨ra, rc, h.cell 2, hr⟩, wa, wc, h.cell 3, hw⟩
  | 1, hz => cases hz; exact ⟨h.cell 4, h.cell 5, ⟨ra', rc', h.cell 6, hr'⟩, wa', wc', h.cell 7, hw'⟩

theorem row_tx3 {w : World} {b : Nat} {x y z : Tx} {c0 c1 c2 c3 d0 d1 d2 d3 e0 e1 e2 e3 : Value} (h : Blk w b 34 #[c0, c1, c2, c3, d0, d1, d2, d3, e0, e1, e2, e3]) (hx : TxIs w x c0 c1 c2 c3) (hy : TxIs w y d0 d1 d2 d3) (hz : TxIs w z e0 e1 e2 e3) : RowOf TxAt w (some ⟨b, 0, none⟩) 3 [x, y, z] := by
  obtain ⟨rfl, rfl, ⟨ra, rc, rfl, hr⟩, wa, wc, rfl, hw⟩ := hx
  obtain ⟨rfl, rfl, ⟨ra', rc', rfl, hr'⟩, wa', wc', rfl, hw'⟩ := hy
  obtain ⟨rfl, rfl, ⟨ra2, rc2, rfl, hr2⟩, wa2, wc2, rfl, hw2⟩ := hz
  refine ⟨rfl, fun _ => ⟨b, 0, rfl, h.lt, fun i u hu => ?_⟩⟩
  match i, hu with
  | 0, hu => cases hu; exact ⟨h.cell 0, h.cell 1, ⟨ra, rc, h.cell 2, hr⟩, wa, wc, h.cell 3, hw⟩
  | 1, hu => cases hu; exact ⟨h.cell 4, h.cell 5, ⟨ra', rc', h.cell 6, hr'⟩, wa', wc', h.cell 7, hw'⟩
  | 2, hu => cases hu; exact ⟨h.cell 8, h.cell 9, ⟨ra2, rc2, h.cell 10, hr2⟩, wa2, wc2, h.cell 11, hw2⟩

/-- What Order tells of the last one. -/
theorem order5 {w w' : World} {e : Ending} (h : OrderPost h5 w e w') : ∃ b cap, e = .returned (.slice (some ⟨b, 0, none⟩) 2 cap) ∧ b < w'.heap.size ∧ w'.cell? ⟨b, 0, none⟩ = some (.int .i64 2) ∧ w'.cell? ⟨b, 1, none⟩ = some (.int .i64 0) ∧ Below w.heap.size w w' := by
  obtain ⟨ao, cap, os, rfl, hi, hp, hs, hb⟩ := h
  rw [o5.1] at hp
  have hos : os = [2, 0] := by
    have hl := hp.length_eq
    match os, hl with
    | [a, b], _ =>
      have h0 : (0 : Int) ∈ [a, b] := hp.mem_iff.2 (by simp)
      have h2 : (2 : Int) ∈ [a, b] := hp.mem_iff.2 (by simp)
      have hab : kap h5 a ≤ kap h5 b := by
        rw [List.pairwise_cons] at hs
        exact hs.1 b (by simp)
      simp only [List.mem_cons, List.not_mem_nil, or_false] at h0 h2
      rcases h0 with rfl | rfl
      · rcases h2 with h2 | rfl
        · omega
        · rw [o5.2.1, o5.2.2] at hab
          omega
      · rcases h2 with rfl | h2
        · rfl
        · omega
  subst hos
  obtain ⟨b, rfl, hlt, hat⟩ := hi (by simp)
  exact ⟨b, cap, rfl, hlt, hat 0 2 rfl, hat 1 0 rfl, hb⟩

theorem blk1 (w : World) (t : TypeId) (cs : Array Value) : Blk (w.alloc (.cells cs t)) w.heap.size t cs := Blk.new w t cs
theorem blk2 (w : World) (o : Obj) (t : TypeId) (cs : Array Value) : Blk ((w.alloc o).alloc (.cells cs t)) (w.heap.size + 1) t cs := by
  have := Blk.new (w.alloc o) t cs
  simpa only [World.size_alloc] using this
theorem blk3 (w : World) (o p : Obj) (t : TypeId) (cs : Array Value) : Blk (((w.alloc o).alloc p).alloc (.cells cs t)) (w.heap.size + 1 + 1) t cs := by
  have := Blk.new ((w.alloc o).alloc p) t cs
  simpa only [World.size_alloc] using this

abbrev axC : Array Value := #[.string { data := #[97] }, .int .i64 1, .string { data := #[120] }]

theorem ax_row {w : World} {b : Nat} (h : Blk w b 40 axC) : RowOf MtAt w (some ⟨b, 0, none⟩) 1 [axM] := row_mt1 (m := axM) h

theorem look1 (W : World) (a b : Nat) (hA : Blk W a 40 axC) (hL : Blk W b 34 #[.int .u64 1, .int .u64 3, .slice none 0 0, .slice (some ⟨a, 0, none⟩) 1 1, .int .u64 2, .int .u64 4, .slice none 0 0, .slice (some ⟨a, 0, none⟩) 1 1]) :
    Calls Try.prog 11 #[.slice (some ⟨b, 0, none⟩) 2 2] W fun e w' => e = .returned (.tuple #[.agg #[.int .i64 2, .int .i64 1, .int .i64 0, .string { data := #[97] }], .int .i64 0]) ∧ Below W.heap.size W w' := by
  refine (look_calls _ 2 h1 W (row_tx2 hL ⟨rfl, rfl, ⟨_, _, rfl, row_rd0⟩, _, _, rfl, ax_row hA⟩ ⟨rfl, rfl, ⟨_, _, rfl, row_rd0⟩, _, _, rfl, ax_row hA⟩) sized1).mono ?_
  rintro e w' ⟨rfl, hb⟩
  rw [f1.1, f1.2]
  exact ⟨rfl, hb⟩

theorem look2 (W : World) (a r b : Nat) (hA : Blk W a 40 axC) (hR : Blk W r 48 #[.string { data := #[97] }, .string { data := #[] }, .bool false]) (hL : Blk W b 34 #[.int .u64 1, .int .u64 2, .slice none 0 0, .slice (some ⟨a, 0, none⟩) 1 1, .int .u64 3, .int .u64 4, .slice (some ⟨r, 0, none⟩) 1 1, .slice none 0 0]) :
    Calls Try.prog 11 #[.slice (some ⟨b, 0, none⟩) 2 2] W fun e w' => e = .returned (.tuple #[.agg #[.int .i64 1, .int .i64 1, .int .i64 0, .string { data := #[97] }], .int .i64 0]) ∧ Below W.heap.size W w' := by
  refine (look_calls _ 2 h2 W (row_tx2 hL ⟨rfl, rfl, ⟨_, _, rfl, row_rd0⟩, _, _, rfl, ax_row hA⟩ ⟨rfl, rfl, ⟨_, _, rfl, row_rd1 (r := ⟨sA, sE, false⟩) hR⟩, _, _, rfl, row_mt0⟩) sized2).mono ?_
  rintro e w' ⟨rfl, hb⟩
  rw [f2.1, f2.2]
  exact ⟨rfl, hb⟩

theorem look3 (W : World) (a r b : Nat) (hA : Blk W a 40 axC) (hR : Blk W r 48 #[.string { data := #[97] }, .string { data := #[120] }, .bool true]) (hL : Blk W b 34 #[.int .u64 1, .int .u64 2, .slice none 0 0, .slice (some ⟨a, 0, none⟩) 1 1, .int .u64 3, .int .u64 4, .slice (some ⟨r, 0, none⟩) 1 1, .slice (some ⟨a, 0, none⟩) 1 1]) :
    Calls Try.prog 11 #[.slice (some ⟨b, 0, none⟩) 2 2] W fun e w' => e = .returned (.tuple #[.agg #[.int .i64 0, .int .i64 0, .int .i64 0, .string { data := #[] }], .int .i64 0]) ∧ Below W.heap.size W w' := by
  refine (look_calls _ 2 h3 W (row_tx2 hL ⟨rfl, rfl, ⟨_, _, rfl, row_rd0⟩, _, _, rfl, ax_row hA⟩ ⟨rfl, rfl, ⟨_, _, rfl, row_rd1 (r := ⟨sA, sX, true⟩) hR⟩, _, _, rfl, ax_row hA⟩) sized3).mono ?_
  rintro e w' ⟨rfl, hb⟩
  rw [f3.1, f3.2]
  exact ⟨rfl, hb⟩

/-- The fault's cells are of no matter. -/
def Look4 (W : World) (e : Ending) (w' : World) : Prop := ∃ f : Flt, e = .returned (.tuple #[.agg #[.int .i64 f.kind, .int .i64 f.first, .int .i64 f.second, .string f.key], .int .i64 2]) ∧ Below W.heap.size W w'

theorem look4 (W : World) (b : Nat) (hL : Blk W b 34 #[.int .u64 0, .int .u64 0, .slice none 0 0, .slice none 0 0]) :
    Calls Try.prog 11 #[.slice (some ⟨b, 0, none⟩) 1 1] W (Look4 W) := by
  refine (look_calls _ 1 h4 W (row_tx1 hL ⟨rfl, rfl, ⟨_, _, rfl, row_rd0⟩, _, _, rfl, row_mt0⟩) sized4).mono ?_
  rintro e w' ⟨rfl, hb⟩
  exact ⟨_, by rw [f4]; rfl, hb⟩

theorem Blk.on {w w' : World} {g : Nat} {t : TypeId} {cs : Array Value} (h : Blk w g t cs) (hb : Below w.heap.size w w') : Blk w' g t cs := h.below hb h.lt

abbrev lC (a : Nat) : Array Value := #[.int .u64 1, .int .u64 3, .slice none 0 0, .slice (some ⟨a, 0, none⟩) 1 1, .int .u64 2, .int .u64 4, .slice none 0 0, .slice (some ⟨a, 0, none⟩) 1 1]
abbrev fC1 : Array Value := #[.int .i64 2, .int .i64 1, .int .i64 0, .string { data := #[97] }]
abbrev fC2 : Array Value := #[.int .i64 1, .int .i64 1, .int .i64 0, .string { data := #[97] }]
abbrev fC3 : Array Value := #[.int .i64 0, .int .i64 0, .int .i64 0, .string { data := #[] }]

theorem row_l {W : World} {a b : Nat} (hA : Blk W a 40 axC) (hL : Blk W b 34 (lC a)) : RowOf TxAt W (some ⟨b, 0, none⟩) 2 h1 :=
  row_tx2 hL ⟨rfl, rfl, ⟨_, _, rfl, row_rd0⟩, _, _, rfl, ax_row hA⟩ ⟨rfl, rfl, ⟨_, _, rfl, row_rd0⟩, _, _, rfl, ax_row hA⟩

theorem val1 (W : World) (a b : Nat) (hA : Blk W a 40 axC) (hL : Blk W b 34 (lC a)) :
    Calls Try.prog 14 #[.slice (some ⟨b, 0, none⟩) 2 2, .string { data := #[97] }, .int .u64 3] W fun e w' => e = .returned (.tuple #[.string { data := #[120] }, .bool true]) ∧ Below W.heap.size W w' := by
  refine (value_calls _ 2 h1 sA 3 W (row_l hA hL) sized1).mono ?_
  rintro e w' ⟨rfl, hb⟩
  rw [v1]
  exact ⟨rfl, hb⟩

theorem val2 (W : World) (a b : Nat) (hA : Blk W a 40 axC) (hL : Blk W b 34 (lC a)) :
    Calls Try.prog 14 #[.slice (some ⟨b, 0, none⟩) 2 2, .string { data := #[97] }, .int .u64 2] W fun e w' => e = .returned (.tuple #[.string { data := #[] }, .bool false]) ∧ Below W.heap.size W w' := by
  refine (value_calls _ 2 h1 sA 2 W (row_l hA hL) sized1).mono ?_
  rintro e w' ⟨rfl, hb⟩
  rw [v2]
  exact ⟨rfl, hb⟩

theorem may1 (W : World) (a b : Nat) (hA : Blk W a 40 axC) (hL : Blk W b 34 (lC a)) :
    Calls Try.prog 12 #[.slice (some ⟨b, 0, none⟩) 2 2] W fun e w' => e = .returned (.bool true) ∧ Below W.heap.size W w' := by
  refine (mayL_calls _ 2 h1 W (row_l hA hL) sized1).mono ?_
  rintro e w' ⟨rfl, hb⟩
  rw [m1]
  exact ⟨rfl, hb⟩

/-- What Order tells of the last history. -/
def Ord5 (W : World) (e : Ending) (w' : World) : Prop :=
  ∃ b cap, e = .returned (.slice (some ⟨b, 0, none⟩) 2 cap) ∧ b < w'.heap.size ∧ w'.cell? ⟨b, 0, none⟩ = some (.int .i64 2) ∧ w'.cell? ⟨b, 1, none⟩ = some (.int .i64 0) ∧ Below W.heap.size W w'

theorem ord5 (W : World) (a b : Nat) (hA : Blk W a 40 axC) (hL : Blk W b 34 #[.int .u64 2, .int .u64 4, .slice none 0 0, .slice (some ⟨a, 0, none⟩) 1 1, .int .u64 9, .int .u64 0, .slice none 0 0, .slice none 0 0, .int .u64 1, .int .u64 3, .slice none 0 0, .slice (some ⟨a, 0, none⟩) 1 1]) :
    Calls Try.prog 13 #[.slice (some ⟨b, 0, none⟩) 3 3] W (Ord5 W) := by
  refine (order_calls _ 3 h5 W (row_tx3 hL ⟨rfl, rfl, ⟨_, _, rfl, row_rd0⟩, _, _, rfl, ax_row hA⟩ ⟨rfl, rfl, ⟨_, _, rfl, row_rd0⟩, _, _, rfl, row_mt0⟩ ⟨rfl, rfl, ⟨_, _, rfl, row_rd0⟩, _, _, rfl, ax_row hA⟩) sized5 (sort_few (by rw [o5.1]; decide))).mono ?_
  exact fun e w' h => order5 h

set_option maxRecDepth 100000 in
set_option maxHeartbeats 8000000 in
theorem awake_calls (w : World) : Calls Try.prog 9 #[] w fun e w' => e = .returned (.bool true) ∧ Below w.heap.size w w' := by
  go_enter Try.func9, Try.ntmps9
  go_wp2_with fail
  refine (look1 _ _ _ ((blk1 w 40 axC).alloc _) (blk2 w _ 34 _)).mono ?_
  rintro e w1 ⟨rfl, hb1⟩
  have HA1 := Lib.hid (((blk1 w 40 axC).alloc _).on hb1)
  have HL1 := Lib.hid ((blk2 w (.cells axC 40) 34 (lC w.heap.size)).on hb1)
  have Hb1 := Lib.hid (then_ (new2 w _ _) (Nat.le_refl _) hb1)
  clear hb1
  go_wp2_with fail
  refine (look2 _ w.heap.size (w1.heap.size + 1) _ (((HA1.out.alloc _).alloc _).alloc _) ((blk2 w1 _ 48 _).alloc _) (blk3 w1 _ _ 34 _)).mono ?_
  rintro e w2 ⟨rfl, hb2⟩
  have HA2 := Lib.hid ((((HA1.out.alloc _).alloc _).alloc _).on hb2)
  have HL2 := Lib.hid ((((HL1.out.alloc _).alloc _).alloc _).on hb2)
  have HF2 := Lib.hid ((((blk1 w1 27 fC1).alloc _).alloc _).on hb2)
  have Hb2 := Lib.hid (then_ Hb1.out (Nat.le_refl _) (then_ (new3 w1 _ _ _) (Nat.le_refl _) hb2))
  clear hb2
  go_wp2_with fail
  refine (look3 _ w.heap.size (w2.heap.size + 1) _ (((HA2.out.alloc _).alloc _).alloc _) ((blk2 w2 _ 48 _).alloc _) (blk3 w2 _ _ 34 _)).mono ?_
  rintro e w3 ⟨rfl, hb3⟩
  have HA3 := Lib.hid ((((HA2.out.alloc _).alloc _).alloc _).on hb3)
  have HL3 := Lib.hid ((((HL2.out.alloc _).alloc _).alloc _).on hb3)
  have HF3 := Lib.hid ((((HF2.out.alloc _).alloc _).alloc _).on hb3)
  have HG3 := Lib.hid ((((blk1 w2 27 fC2).alloc _).alloc _).on hb3)
  have Hb3 := Lib.hid (then_ Hb2.out (Nat.le_refl _) (then_ (new3 w2 _ _ _) (Nat.le_refl _) hb3))
  clear hb3
  go_wp2_with fail
  refine (look4 _ _ (blk2 w3 _ 34 _)).mono ?_
  rintro e w4 ⟨f4, rfl, hb4⟩
  have HA4 := Lib.hid (((HA3.out.alloc _).alloc _).on hb4)
  have HL4 := Lib.hid (((HL3.out.alloc _).alloc _).on hb4)
  have HF4 := Lib.hid (((HF3.out.alloc _).alloc _).on hb4)
  have HG4 := Lib.hid (((HG3.out.alloc _).alloc _).on hb4)
  have HI4 := Lib.hid (((blk1 w3 27 fC3).alloc _).on hb4)
  have Hb4 := Lib.hid (then_ Hb3.out (Nat.le_refl _) (then_ (new2 w3 _ _) (Nat.le_refl _) hb4))
  clear hb4
  go_wp2_with fail
  refine (val1 _ _ _ (HA4.out.alloc _) (HL4.out.alloc _)).mono ?_
  rintro e w5 ⟨rfl, hb5⟩
  have HA5 := Lib.hid ((HA4.out.alloc _).on hb5)
  have HL5 := Lib.hid ((HL4.out.alloc _).on hb5)
  have HF5 := Lib.hid ((HF4.out.alloc _).on hb5)
  have HG5 := Lib.hid ((HG4.out.alloc _).on hb5)
  have HI5 := Lib.hid ((HI4.out.alloc _).on hb5)
  have Hb5 := Lib.hid (then_ Hb4.out (Nat.le_refl _) (then_ (new1 w4 _) (Nat.le_refl _) hb5))
  clear hb5
  go_wp2_with fail
  refine (val2 _ _ _ HA5.out HL5.out).mono ?_
  rintro e w6 ⟨rfl, hb6⟩
  have hA := HA5.out.on hb6
  have hL := HL5.out.on hb6
  have hF := HF5.out.on hb6
  have hG := HG5.out.on hb6
  have hI := HI5.out.on hb6
  have Hb6 := Lib.hid (then_ Hb5.out (Nat.le_refl _) hb6)
  clear hb6
  go_upto_region 9 with fail
  have l0 : w6.cell? ⟨w.heap.size + 1, 0, none⟩ = some (.int .u64 1) := hL.cell 0
  have l1 : w6.cell? ⟨w.heap.size + 1, 1, none⟩ = some (.int .u64 3) := hL.cell 1
  have l2 : w6.cell? ⟨w.heap.size + 1, 2, none⟩ = some (.slice none 0 0) := hL.cell 2
  have l3 : w6.cell? ⟨w.heap.size + 1, 3, none⟩ = some (.slice (some ⟨w.heap.size, 0, none⟩) 1 1) := hL.cell 3
  have l4 : w6.cell? ⟨w.heap.size + 1, 4, none⟩ = some (.int .u64 2) := hL.cell 4
  have l5 : w6.cell? ⟨w.heap.size + 1, 5, none⟩ = some (.int .u64 4) := hL.cell 5
  have l6 : w6.cell? ⟨w.heap.size + 1, 6, none⟩ = some (.slice none 0 0) := hL.cell 6
  have l7 : w6.cell? ⟨w.heap.size + 1, 7, none⟩ = some (.slice (some ⟨w.heap.size, 0, none⟩) 1 1) := hL.cell 7
  have HA := Lib.hid hA
  have HL := Lib.hid hL
  have HF := Lib.hid hF
  have HG := Lib.hid hG
  have HI := Lib.hid hI
  clear hA hL hF hG hI
  go_still_tail 7, (by kernel_rfl)
  go_wp2_with fail
  refine (ord5 _ w.heap.size _ ((HA.out.alloc _).drewN 1) ((blk1 w6 34 _).drewN 1)).mono ?_
  rintro e w7 ⟨o, oc, rfl, holt, o0, o1, hb7⟩
  clear l0 l1 l2 l3 l4 l5 l6 l7
  have HA7 := Lib.hid (((HA.out.alloc _).drewN 1).on hb7)
  have HL7 := Lib.hid (((HL.out.alloc _).drewN 1).on hb7)
  have hF := ((HF.out.alloc _).drewN 1).on hb7
  have hG := ((HG.out.alloc _).drewN 1).on hb7
  have hI := ((HI.out.alloc _).drewN 1).on hb7
  have Hb7 := Lib.hid (then_ Hb6.out (Nat.le_refl _) (then_ (new1 w6 _).drew (Nat.le_refl _) hb7))
  have p0 : w7.cell? ⟨w1.heap.size, 0, none⟩ = some (.int .i64 2) := hF.cell 0
  have p1 : w7.cell? ⟨w1.heap.size, 1, none⟩ = some (.int .i64 1) := hF.cell 1
  have p2 : w7.cell? ⟨w1.heap.size, 2, none⟩ = some (.int .i64 0) := hF.cell 2
  have p3 : w7.cell? ⟨w1.heap.size, 3, none⟩ = some (.string { data := #[97] }) := hF.cell 3
  have q0 : w7.cell? ⟨w2.heap.size, 0, none⟩ = some (.int .i64 1) := hG.cell 0
  have q1 : w7.cell? ⟨w2.heap.size, 1, none⟩ = some (.int .i64 1) := hG.cell 1
  have q2 : w7.cell? ⟨w2.heap.size, 2, none⟩ = some (.int .i64 0) := hG.cell 2
  have q3 : w7.cell? ⟨w2.heap.size, 3, none⟩ = some (.string { data := #[97] }) := hG.cell 3
  have r0 : w7.cell? ⟨w3.heap.size, 0, none⟩ = some (.int .i64 0) := hI.cell 0
  have r1 : w7.cell? ⟨w3.heap.size, 1, none⟩ = some (.int .i64 0) := hI.cell 1
  have r2 : w7.cell? ⟨w3.heap.size, 2, none⟩ = some (.int .i64 0) := hI.cell 2
  have r3 : w7.cell? ⟨w3.heap.size, 3, none⟩ = some (.string { data := #[] }) := hI.cell 3
  clear hF hG hI hb7
  go_wp2_with fail
  refine (may1 _ w.heap.size _ HA7.out HL7.out).mono ?_
  rintro e w8 ⟨rfl, hb8⟩
  have Hb8 := Lib.hid (then_ Hb7.out (Nat.le_refl _) hb8)
  clear hb8
  go_wp2_with fail
  go_ret
  exact ⟨rfl, Hb8.out⟩

end Go.Proofs.Ytghmjconljdapaa
