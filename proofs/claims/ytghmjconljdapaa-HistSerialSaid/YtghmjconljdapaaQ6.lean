/- What HistSerial builds: rows of reads and writes, transactions of its own. -/
import Derived.Test.YtghmjconljdapaaP3
import Derived.Test.YtghmjconljdapaaM2
import Derived.Test.YtghmjconljdapaaQ
import Derived.Test.YtghmjconljdapaaO
namespace Go.Proofs.Ytghmjconljdapaa
open Go.RowKit

theorem Try.info40 : (Try.prog.info? 40).map (fun i => (i.zero, i.size, i.bytes)) = some (some (.agg #[.string { data := #[] }, .int .i64 0, .string { data := #[] }]), 3, 40) := by kernel_rfl
theorem Try.info48 : (Try.prog.info? 48).map (fun i => (i.zero, i.size, i.bytes)) = some (some (.agg #[.string { data := #[] }, .string { data := #[] }, .bool false]), 3, 40) := by kernel_rfl

/-- Element i of a slice of slices of writes lies there. -/
def MsAt (w : World) (b off i : Nat) (ws : List Mt) : Prop := ∃ wa wc, w.cell? ⟨b, off + i, none⟩ = some (.slice wa ws.length wc) ∧ RowOf MtAt w wa ws.length ws

section
variable {H : Type} {enc : TypeId × Value → H} {w : World}
theorem mss_open {n : Nat} {ao : Option Addr} {len cap : Nat} {x : DataW H × List MemPlace} (h : DataW.trod enc Try.prog w 0 (fun _ => true) true n 44 [.slice ao len cap] = some x) : ∃ xs, RowOf MsAt w ao len xs := by
  obtain ⟨xs, hx, _⟩ := rows_open (At := MsAt) (Q := fun _ => True) Try.underlying44 Try.cells32 (by decide) (fun {n cs x} ht hl => by
    match cs, hl with
    | [c0], _ =>
      obtain ⟨wa, wn, wc, rfl⟩ := slice_form Try.underlying32 ht
      obtain ⟨ws, hw⟩ := mts_open ht
      obtain rfl := hw.count
      refine ⟨ws, trivial, fun b off i hat => ⟨wa, wc, ?_, hw⟩⟩
      have := hat 0 _ rfl
      simpa using this) h
  exact ⟨xs, hx⟩
end

def mtsC (ks : List Mt) : List Value := ks.flatMap fun m => [.string m.k, .int .i64 m.c, .string m.v]
def rdsC (rs : List Rd) : List Value := rs.flatMap fun r => [.string r.k, .string r.v, .bool r.i]

theorem flat3_at {α : Type} {f : α → List Value} (hf : ∀ a, (f a).length = 3) {l : List α} {i q : Nat} {a : α} (h : l[i]? = some a) (hq : q < 3) : (l.flatMap f)[i * 3 + q]? = (f a)[q]? := by
  induction l generalizing i with
  | nil => simp at h
  | cons b l ih =>
    rw [List.flatMap_cons]
    cases i with
    | zero =>
      simp only [List.getElem?_cons_zero, Option.some.injEq] at h
      subst h
      rw [Nat.zero_mul, Nat.zero_add, List.getElem?_append_left (by rw [hf]; exact hq)]
    | succ i =>
      rw [List.getElem?_cons_succ] at h
      rw [List.getElem?_append_right (by rw [hf]; omega), hf, show (i + 1) * 3 + q - 3 = i * 3 + q by omega]
      exact ih h

theorem mts_of_own {w : World} {base n c : Nat} {ao : Option Addr} {ks : List Mt} (h : w.ownsRow base 40 3 (.slice ao n c) ks.length (mtsC ks)) : RowOf MtAt w ao ks.length ks := by
  refine ⟨rfl, fun hp => ?_⟩
  obtain ⟨g, cap, e, _, _, _, hlt, hc⟩ := own_some h hp
  simp only [Value.slice.injEq] at e
  obtain ⟨rfl, _, _⟩ := e
  refine ⟨g, 0, rfl, hlt, fun i m hm => ?_⟩
  have h0 := hc _ _ ((flat3_at (f := fun m : Mt => [.string m.k, .int .i64 m.c, .string m.v]) (fun _ => rfl) hm (q := 0) (by decide)).trans rfl)
  have h1 := hc _ _ ((flat3_at (f := fun m : Mt => [.string m.k, .int .i64 m.c, .string m.v]) (fun _ => rfl) hm (q := 1) (by decide)).trans rfl)
  have h2 := hc _ _ ((flat3_at (f := fun m : Mt => [.string m.k, .int .i64 m.c, .string m.v]) (fun _ => rfl) hm (q := 2) (by decide)).trans rfl)
  refine ⟨?_, ?_, ?_⟩ <;> rw [Nat.zero_add] <;> assumption

theorem rds_of_own {w : World} {base n c : Nat} {ao : Option Addr} {ks : List Rd} (h : w.ownsRow base 48 3 (.slice ao n c) ks.length (rdsC ks)) : RowOf RdAt w ao ks.length ks := by
  refine ⟨rfl, fun hp => ?_⟩
  obtain ⟨g, cap, e, _, _, _, hlt, hc⟩ := own_some h hp
  simp only [Value.slice.injEq] at e
  obtain ⟨rfl, _, _⟩ := e
  refine ⟨g, 0, rfl, hlt, fun i m hm => ?_⟩
  have h0 := hc _ _ ((flat3_at (f := fun r : Rd => [.string r.k, .string r.v, .bool r.i]) (fun _ => rfl) hm (q := 0) (by decide)).trans rfl)
  have h1 := hc _ _ ((flat3_at (f := fun r : Rd => [.string r.k, .string r.v, .bool r.i]) (fun _ => rfl) hm (q := 1) (by decide)).trans rfl)
  have h2 := hc _ _ ((flat3_at (f := fun r : Rd => [.string r.k, .string r.v, .bool r.i]) (fun _ => rfl) hm (q := 2) (by decide)).trans rfl)
  refine ⟨?_, ?_, ?_⟩ <;> rw [Nat.zero_add] <;> assumption

theorem own_len {w : World} {base n k c : Nat} {e : TypeId} {size : Nat} {ao : Option Addr} {xs : List Value} (h : w.ownsRow base e size (.slice ao n c) k xs) : n = k := by
  rcases h.2 with ⟨h1, h2⟩ | ⟨g, cap, cur, h1, _⟩
  · simp only [Value.slice.injEq] at h1; omega
  · simp only [Value.slice.injEq] at h1; omega

/-- A transaction whose rows the call owns. -/
def RawOwn (base : Nat) (w : World) (r : Raw) : Prop := w.ownsRow base 48 3 r.rv r.x.rs.length (rdsC r.x.rs) ∧ w.ownsRow base 40 3 r.wv r.x.ws.length (mtsC r.x.ws)

theorem RawOwn.ok {base : Nat} {w : World} {r : Raw} (h : RawOwn base w r) : RawOk w r := by
  obtain ⟨h1, h2⟩ := h
  obtain ⟨ra, rc, e1⟩ := own_slice h1
  obtain ⟨wa, wc, e2⟩ := own_slice h2
  rw [e1] at h1
  rw [e2] at h2
  exact ⟨⟨ra, rc, e1, rds_of_own h1⟩, wa, wc, e2, mts_of_own h2⟩

theorem own_grown {w w' : World} {base base' n n' : Nat} {e e' : TypeId} {size size' : Nat} {v v' : Value} {xs xs' : List Value} (h : w.ownsRow base e size v n xs) (h' : w.ownsRow base' e' size' v' n' xs') (hne : e ≠ e') (hg : w.grownBy w' v'.ownBlock) :
    w'.ownsRow base e size v n xs := h.kept hg (own_two h h' hne)

theorem own_map {α : Type} {enc : α → Value} {w w' : World} {base n : Nat} {e : TypeId} {size : Nat} {v : Value} {xs : List Value} {b : Nat} {l : List (α × Value)} (h : w.ownsRow base e size v n xs) (hm : MapIs enc w b l) (hg : w.grownBy w' (some b)) :
    w'.ownsRow base e size v n xs := by
  refine h.kept hg ?_
  rcases h.2 with ⟨rfl, _⟩ | ⟨g, cap, cur, rfl, _, hh, _⟩
  · exact .inl rfl
  · refine .inr ?_
    simp only [Value.ownBlock]
    exact blk_map_ne hm (t := e) (cs := cur) hh

theorem own_below {w w' : World} {base n : Nat} {e : TypeId} {size : Nat} {v : Value} {xs : List Value} (h : w.ownsRow base e size v n xs) (hb : Below w.heap.size w w') : w'.ownsRow base e size v n xs := by
  obtain ⟨h1, h2⟩ := h
  refine ⟨h1, ?_⟩
  rcases h2 with h2 | ⟨g, cap, cur, e1, e2, hh, e3⟩
  · exact .inl h2
  · have hlt := (Array.getElem?_eq_some_iff.1 hh).1
    exact .inr ⟨g, cap, cur, e1, e2, (hb.block g hlt).trans hh, e3⟩

theorem RawOwn.below {base : Nat} {w w' : World} {r : Raw} (h : RawOwn base w r) (hb : Below w.heap.size w w') : RawOwn base w' r := ⟨own_below h.1 hb, own_below h.2 hb⟩

theorem RawOwn.map {α : Type} {enc : α → Value} {base : Nat} {w w' : World} {r : Raw} {b : Nat} {l : List (α × Value)} (h : RawOwn base w r) (hm : MapIs enc w b l) (hg : w.grownBy w' (some b)) : RawOwn base w' r := ⟨own_map h.1 hm hg, own_map h.2 hm hg⟩

theorem RawOwn.grown {base base' : Nat} {w w' : World} {r : Raw} {n : Nat} {v : Value} {xs : List Value} (h : RawOwn base w r) (h' : w.ownsRow base' 34 4 v n xs) (hg : w.grownBy w' v.ownBlock) : RawOwn base w' r :=
  ⟨own_grown h.1 h' (by decide) hg, own_grown h.2 h' (by decide) hg⟩

theorem RawOwn.base {a b : Nat} {w : World} {r : Raw} (h : RawOwn a w r) (hab : b ≤ a) : RawOwn b w r := by
  have f : ∀ {e : TypeId} {size n : Nat} {v : Value} {xs : List Value}, w.ownsRow a e size v n xs → w.ownsRow b e size v n xs := by
    intro e size n v xs h
    obtain ⟨h1, h2⟩ := h
    refine ⟨h1, ?_⟩
    rcases h2 with h2 | ⟨g, cap, cur, e1, e2, hh, e3⟩
    · exact .inl h2
    · exact .inr ⟨g, cap, cur, e1, by omega, hh, e3⟩
  exact ⟨f h.1, f h.2⟩

theorem map_grown {α : Type} {enc : α → Value} {w w' : World} {b : Nat} {l : List (α × Value)} {row : Option Nat} (h : MapIs enc w b l) (hg : w.grownBy w' row) (hne : some b ≠ row) : MapIs enc w' b l := h.same (hg.block b h.lt hne)

theorem own_map_ne {α : Type} {enc : α → Value} {w : World} {base n : Nat} {e : TypeId} {size : Nat} {v : Value} {xs : List Value} {b : Nat} {l : List (α × Value)} (h : w.ownsRow base e size v n xs) (hm : MapIs enc w b l) : some b ≠ v.ownBlock := by
  rcases h.2 with ⟨rfl, _⟩ | ⟨g, cap, cur, rfl, _, hh, _⟩
  · simp [Value.ownBlock]
  · simp only [Value.ownBlock]
    exact (blk_map_ne hm (t := e) (cs := cur) hh).symm

/-- The map holds what is there now. -/
def NowIs (now : Now) (m : List (ByteArray × Value)) : Prop := Keys1 m ∧ ∀ key, mget key m = (now key).map Value.string

theorem NowIs.nil : NowIs (fun _ => none) [] := ⟨by unfold Keys1; simp, fun key => by simp [mget_nil]⟩

theorem NowIs.put {now : Now} {m : List (ByteArray × Value)} (h : NowIs now m) {x : Mt} (hc : ¬ x.c = 2) : NowIs (nowStep now x) (mput x.k (.string x.v) m) := by
  refine ⟨keys_mput _ _ h.1, fun key => ?_⟩
  rw [mget_mput]
  unfold nowStep
  by_cases e : key = x.k
  · rw [if_pos e, if_pos e, if_neg hc]; rfl
  · rw [if_neg e, if_neg e]; exact h.2 key

theorem NowIs.del {now : Now} {m : List (ByteArray × Value)} (h : NowIs now m) {x : Mt} (hc : x.c = 2) : NowIs (nowStep now x) (mdel x.k m) := by
  refine ⟨keys_mdel _ h.1, fun key => ?_⟩
  rw [mget_mdel _ _ h.1]
  unfold nowStep
  by_cases e : key = x.k
  · rw [if_pos e, if_pos e, if_pos hc]; rfl
  · rw [if_neg e, if_neg e]; exact h.2 key

end Go.Proofs.Ytghmjconljdapaa
