/- Histories: transactions as data, and where they lie. No program in sight. -/
import Derived.Below
import Derived.Laws.OwnMore
import Derived.Laws.Rows
import Derived.Deep.Draws
namespace Go.Proofs.Ytghmjconljdapaa
open Go.RowKit

/-- A write. -/
structure Mt where
  k : ByteArray
  c : Int
  v : ByteArray

/-- A read. -/
structure Rd where
  k : ByteArray
  v : ByteArray
  i : Bool

/-- A transaction. -/
structure Tx where
  s : Int
  t : Int
  rs : List Rd
  ws : List Mt

/-- Element i of a row of writes lies there. -/
def MtAt (w : World) (b off i : Nat) (m : Mt) : Prop :=
  w.cell? ⟨b, off + i * 3, none⟩ = some (.string m.k) ∧ w.cell? ⟨b, off + i * 3 + 1, none⟩ = some (.int .i64 m.c) ∧ w.cell? ⟨b, off + i * 3 + 2, none⟩ = some (.string m.v)

def RdAt (w : World) (b off i : Nat) (r : Rd) : Prop :=
  w.cell? ⟨b, off + i * 3, none⟩ = some (.string r.k) ∧ w.cell? ⟨b, off + i * 3 + 1, none⟩ = some (.string r.v) ∧ w.cell? ⟨b, off + i * 3 + 2, none⟩ = some (.bool r.i)

/-- The address leads to these elements. -/
structure RowOf {α : Type} (At : World → Nat → Nat → Nat → α → Prop) (w : World) (ao : Option Addr) (n : Nat) (xs : List α) : Prop where
  count : xs.length = n
  at_ : 0 < n → ∃ b off, ao = some ⟨b, off, none⟩ ∧ b < w.heap.size ∧ ∀ i x, xs[i]? = some x → At w b off i x

/-- Element i of a row of transactions lies there, and so do its reads and writes. -/
def TxAt (w : World) (b off i : Nat) (x : Tx) : Prop :=
  w.cell? ⟨b, off + i * 4, none⟩ = some (.int .u64 x.s) ∧ w.cell? ⟨b, off + i * 4 + 1, none⟩ = some (.int .u64 x.t) ∧
    (∃ ra rc, w.cell? ⟨b, off + i * 4 + 2, none⟩ = some (.slice ra x.rs.length rc) ∧ RowOf RdAt w ra x.rs.length x.rs) ∧
    ∃ wa wc, w.cell? ⟨b, off + i * 4 + 3, none⟩ = some (.slice wa x.ws.length wc) ∧ RowOf MtAt w wa x.ws.length x.ws

theorem MtAt.below {w w' : World} {b off i : Nat} {m : Mt} (h : MtAt w b off i m) (hb : Below w.heap.size w w') (hB : b < w.heap.size) : MtAt w' b off i m := by
  obtain ⟨h0, h1, h2⟩ := h
  refine ⟨?_, ?_, ?_⟩ <;> rw [hb.cell (by exact hB)] <;> assumption

theorem RdAt.below {w w' : World} {b off i : Nat} {m : Rd} (h : RdAt w b off i m) (hb : Below w.heap.size w w') (hB : b < w.heap.size) : RdAt w' b off i m := by
  obtain ⟨h0, h1, h2⟩ := h
  refine ⟨?_, ?_, ?_⟩ <;> rw [hb.cell (by exact hB)] <;> assumption

theorem RowOf.below {α : Type} {At : World → Nat → Nat → Nat → α → Prop} (hAt : ∀ (w w' : World) (b off i : Nat) (x : α), At w b off i x → Below w.heap.size w w' → b < w.heap.size → At w' b off i x)
    {w w' : World} {ao : Option Addr} {n : Nat} {xs : List α} (h : RowOf At w ao n xs) (hb : Below w.heap.size w w') : RowOf At w' ao n xs := by
  refine ⟨h.count, fun hn => ?_⟩
  obtain ⟨b, off, rfl, hlt, hat⟩ := h.at_ hn
  exact ⟨b, off, rfl, by have := hb.size; omega, fun i x hx => hAt _ _ _ _ _ _ (hat i x hx) hb hlt⟩

theorem TxAt.below {w w' : World} {b off i : Nat} {x : Tx} (h : TxAt w b off i x) (hb : Below w.heap.size w w') (hB : b < w.heap.size) : TxAt w' b off i x := by
  obtain ⟨h0, h1, ⟨ra, rc, h2, h3⟩, wa, wc, h4, h5⟩ := h
  have e3 : RowOf RdAt w' ra x.rs.length x.rs := RowOf.below (At := RdAt) (fun _ _ _ _ _ _ h => RdAt.below h) h3 hb
  have e5 : RowOf MtAt w' wa x.ws.length x.ws := RowOf.below (At := MtAt) (fun _ _ _ _ _ _ h => MtAt.below h) h5 hb
  refine ⟨?_, ?_, ⟨ra, rc, ?_, e3⟩, wa, wc, ?_, e5⟩ <;> rw [hb.cell (by exact hB)] <;> assumption

/-- One element of a row. -/
theorem RowOf.get {α : Type} {At : World → Nat → Nat → Nat → α → Prop} {w : World} {ao : Option Addr} {n i : Nat} {xs : List α} (h : RowOf At w ao n xs) (hi : i < n) :
    ∃ b off x, ao = some ⟨b, off, none⟩ ∧ b < w.heap.size ∧ xs[i]? = some x ∧ At w b off i x := by
  obtain ⟨b, off, rfl, hlt, hat⟩ := h.at_ (by omega)
  have hx : xs[i]? = some (xs[i]'(by rw [h.count]; exact hi)) := by simp
  exact ⟨b, off, _, rfl, hlt, hx, hat _ _ hx⟩

/-! ### What the package tells -/
/-- What a transaction wrote of a key. -/
def wroteOf (key : ByteArray) (ws : List Mt) : Option Mt := ws.find? fun m => m.k.toList == key.toList

/-- One transaction more. -/
def valStep (key : ByteArray) (t : Int) (p : Int × Option Mt) (x : Tx) : Int × Option Mt :=
  match wroteOf key x.ws with
  | some m => if p.1 < x.t ∧ x.t ≤ t then (x.t, some m) else p
  | none => p

/-- The last write of a key up to a time, and its time. -/
def lastOf (l : List Tx) (key : ByteArray) (t : Int) : Int × Option Mt := l.foldl (valStep key t) (0, none)

def valueOf (l : List Tx) (key : ByteArray) (t : Int) : Option ByteArray :=
  match (lastOf l key t).2 with
  | some m => if m.c = 2 then none else some m.v
  | none => none

end Go.Proofs.Ytghmjconljdapaa
