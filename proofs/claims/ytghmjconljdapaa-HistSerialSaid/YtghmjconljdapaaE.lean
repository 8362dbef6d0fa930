/- May: which transactions may be. The walk over may. -/
import Derived.Test.YtghmjconljdapaaD
import Derived.Test.YtghmjconljdapaaM
namespace Go.Proofs.Ytghmjconljdapaa
open Go.RowKit

theorem MapIs.below {α : Type} {enc : α → Value} {w w' : World} {b : Nat} {l : List (α × Value)} (h : MapIs enc w b l) (hb : Below w.heap.size w w') : MapIs enc w' b l := h.same (hb.block b h.lt)

theorem MapIs.alloc {α : Type} {enc : α → Value} {w : World} {b : Nat} {l : List (α × Value)} (h : MapIs enc w b l) (o : Obj) : MapIs enc (w.alloc o) b l := h.below (new1 w o)

/-- A map's block is no row of cells. -/
theorem blk_map_ne {α : Type} {enc : α → Value} {w : World} {b g : Nat} {l : List (α × Value)} {t : TypeId} {cs : Array Value} (hm : MapIs enc w b l) (hg : Blk w g t cs) : some g ≠ some b := by
  intro e
  simp only [Option.some.injEq] at e
  subst e
  obtain ⟨es, clock, hb, _⟩ := hm
  unfold Blk at hg
  rw [hg] at hb
  cases hb

def strE (s : ByteArray) : Value := .string s

/-- A set of keys as a map to bool. -/
def SetOf {α : Type} [DecidableEq α] (ks : List α) (l : List (α × Value)) : Prop := ∀ x, mget x l = if x ∈ ks then some (.bool true) else none

theorem SetOf.nil {α : Type} [DecidableEq α] : SetOf ([] : List α) [] := fun x => by simp [mget_nil]
theorem SetOf.put {α : Type} [DecidableEq α] {ks : List α} {l : List (α × Value)} (h : SetOf ks l) (x : α) : SetOf (ks ++ [x]) (mput x (.bool true) l) := by
  intro y
  rw [mget_mput, h y]
  by_cases e : y = x
  · simp [e]
  · simp [e]

/-- What the writes of a transaction must be. -/
def wsB (ws : List Mt) : Bool := ws.all (fun m => decide (m.c = 1) || decide (m.c = 2)) && decide ((ws.map (·.k)).Nodup)

def mayB (x : Tx) : Bool := decide (1 ≤ x.s) && decide (x.s ≤ 1099511627776) && decide (x.t ≤ 1099511627776) && (decide (x.t ≤ 0) || decide (x.s < x.t)) && wsB x.ws

theorem wsB_iff (ws : List Mt) : wsB ws = true ↔ (∀ m ∈ ws, m.c = 1 ∨ m.c = 2) ∧ (ws.map (·.k)).Nodup := by
  simp [wsB]

theorem mayB_iff (x : Tx) : mayB x = true ↔ 1 ≤ x.s ∧ x.s ≤ 1099511627776 ∧ x.t ≤ 1099511627776 ∧ (x.t ≤ 0 ∨ x.s < x.t) ∧ wsB x.ws = true := by
  simp [mayB, and_assoc]

def MayRel (ws : List Mt) (w0 : World) (mb : Nat) (g : Nat) (i : Value) (wr : World) : Prop :=
  ∃ n : Nat, i = .int .i64 n ∧ n ≤ ws.length ∧ g = ws.length - n ∧ wsB (ws.take n) = true ∧
    (∃ l, MapIs (fun s : ByteArray => Value.string s) wr mb l ∧ SetOf ((ws.take n).map (·.k)) l) ∧ Below w0.heap.size w0 wr

theorem wsB_snoc {ws : List Mt} {n : Nat} {m : Mt} (hm : ws[n]? = some m) (h : wsB (ws.take n) = true) (hc : m.c = 1 ∨ m.c = 2) (hk : m.k ∉ (ws.take n).map (·.k)) : wsB (ws.take (n + 1)) = true := by
  have hlt := (List.getElem?_eq_some_iff.1 hm).1
  rw [wsB_iff] at h ⊢
  rw [List.take_succ_eq_append_getElem hlt, (List.getElem?_eq_some_iff.1 hm).2]
  refine ⟨fun x hx => ?_, ?_⟩
  · rcases List.mem_append.1 hx with hx | hx
    · exact h.1 x hx
    · rw [List.mem_singleton.1 hx]; exact hc
  · rw [List.map_append, List.nodup_append]
    refine ⟨h.2, by simp, fun a ha b hb => ?_⟩
    simp only [List.map_cons, List.map_nil, List.mem_singleton] at hb
    rintro rfl
    rw [hb] at ha
    exact hk ha

theorem wsB_kind {ws : List Mt} {m : Mt} (hm : m ∈ ws) (h1 : ¬ m.c = 1) (h2 : ¬ m.c = 2) : wsB ws = false := by
  rw [Bool.eq_false_iff]
  intro h
  rcases (wsB_iff ws).1 h |>.1 m hm with h | h
  · exact h1 h
  · exact h2 h

theorem wsB_twice {ws : List Mt} {n : Nat} {m : Mt} (hm : ws[n]? = some m) (hk : m.k ∈ (ws.take n).map (·.k)) : wsB ws = false := by
  rw [Bool.eq_false_iff]
  intro h
  have h := ((wsB_iff ws).1 h).2
  obtain ⟨x, hx, he⟩ := List.mem_map.1 hk
  obtain ⟨i, hi, rfl⟩ := List.mem_iff_getElem.1 hx
  rw [List.length_take] at hi
  have hlt := (List.getElem?_eq_some_iff.1 hm)
  rw [List.nodup_iff_pairwise_ne, List.pairwise_map] at h
  have := List.pairwise_iff_getElem.1 h i n (by omega) hlt.1 (by omega)
  rw [hlt.2] at this
  rw [List.getElem_take] at he
  exact this he

theorem keys_snoc {ws : List Mt} {n : Nat} {m : Mt} (hm : ws[n]? = some m) : (ws.take (n + 1)).map (·.k) = (ws.take n).map (·.k) ++ [m.k] := by
  have hlt := (List.getElem?_eq_some_iff.1 hm).1
  rw [List.take_succ_eq_append_getElem hlt, (List.getElem?_eq_some_iff.1 hm).2]
  simp

set_option maxRecDepth 100000 in
set_option maxHeartbeats 4000000 in
theorem may_calls (x : Tx) (rv : Value) (wa : Option Addr) (wc : Nat) (w : World) (h : RowOf MtAt w wa x.ws.length x.ws) (hl : x.ws.length ≤ 100) (ra : Option Addr) (rn rc : Nat) (hrv : rv = .slice ra rn rc) :
    Calls Try.prog 18 #[.agg #[.int .u64 x.s, .int .u64 x.t, rv, .slice wa x.ws.length wc]] w fun e w' =>
      e = .returned (.bool (mayB x)) ∧ Below w.heap.size w w' := by
  subst hrv
  have hmm := @run_makeMap Try.prog
  have H := Lib.hid h
  clear h
  obtain ⟨s, t, rs, ws⟩ := x
  simp only at hl H ⊢
  by_cases h1 : s < 1
  · have Hm := Lib.hid (show mayB ⟨s, t, rs, ws⟩ = false by rw [Bool.eq_false_iff, ne_eq, mayB_iff]; simp only; omega)
    go_enter Try.func18, Try.ntmps18
    go_wp2_with fail
    go_ret
    exact ⟨by rw [Hm.out]; first | done | rfl, new1 w _⟩
  by_cases h2 : 1099511627776 < s
  · have Hm := Lib.hid (show mayB ⟨s, t, rs, ws⟩ = false by rw [Bool.eq_false_iff, ne_eq, mayB_iff]; simp only; omega)
    go_enter Try.func18, Try.ntmps18
    go_wp2_with fail
    go_ret
    exact ⟨by rw [Hm.out]; first | done | rfl, new1 w _⟩
  by_cases h3 : 1099511627776 < t
  · have Hm := Lib.hid (show mayB ⟨s, t, rs, ws⟩ = false by rw [Bool.eq_false_iff, ne_eq, mayB_iff]; simp only; omega)
    go_enter Try.func18, Try.ntmps18
    go_wp2_with fail
    go_ret
    exact ⟨by rw [Hm.out]; first | done | rfl, new1 w _⟩
  by_cases h45 : 0 < t ∧ t ≤ s
  · have Hm := Lib.hid (show mayB ⟨s, t, rs, ws⟩ = false by rw [Bool.eq_false_iff, ne_eq, mayB_iff]; simp only; omega)
    obtain ⟨h4, h5⟩ := h45
    go_enter Try.func18, Try.ntmps18
    go_wp2_with fail
    go_ret
    exact ⟨by rw [Hm.out]; first | done | rfl, new1 w _⟩
  have Hm := Lib.hid (show mayB ⟨s, t, rs, ws⟩ = wsB ws by
    rw [Bool.eq_iff_iff, mayB_iff]
    exact ⟨fun h => h.2.2.2.2, fun h => ⟨by simp only; omega, by simp only; omega, by simp only; omega, by simp only; omega, h⟩⟩)
  have h45' : t ≤ 0 ∨ (0 < t ∧ s < t) := by omega
  clear h45
  rcases h45' with h4 | ⟨h4, h5⟩
  all_goals
    go_enter Try.func18, Try.ntmps18
    go_wp2_with fail
    clear hmm
    go_loopg [35] ws.length (fun g i wr => MayRel ws w (w.heap.size + 1) g i wr)
    case atStart => exact ⟨0, rfl, by omega, by omega, by simp [wsB], ⟨[], by simpa only [World.size_alloc] using MapIs.made (fun s : ByteArray => Value.string s) (w.alloc (.cells #[.int .u64 s, .int .u64 t, .slice ra rn rc, .slice wa ws.length wc] 34)), SetOf.nil⟩, new2 w _ _⟩
    case round =>
      obtain ⟨n, rfl, hn, rfl, hok, ⟨l, hM, hS⟩, hb⟩ := hrel
      have HM := Lib.hid hM
      have HS := Lib.hid hS
      have Hb := Lib.hid hb
      have Hok := Lib.hid hok
      have hsz := hb.size
      clear hM hS hok
      by_cases hlt : n < ws.length
      · obtain ⟨b, off, m, rfl, hblt, hm, e0, e1, e2⟩ := H.out.get hlt
        rw [← hb.cell (by exact hblt)] at e0 e1 e2
        have Hx := Lib.hid hm
        have hlti : (n : Int) < (ws.length : Int) := by omega
        clear hb hm
        have hMa := HM.out.alloc (.cells #[.string m.k, .int .i64 m.c, .string m.v] 40)
        have hlk := hMa.lookup (string_kind Try.underlying9) Try.underlying46 (z := .bool false) (by kernel_rfl) m.k
        rw [HS.out m.k] at hlk
        by_cases hc : m.c = 1 ∨ m.c = 2
        · by_cases hk : m.k ∈ (ws.take n).map (·.k)
          · rw [if_pos hk] at hlk
            have Hf := Lib.hid (wsB_twice Hx.out hk)
            clear hMa hk
            rcases hc with hc | hc
            all_goals
              rw [hc] at e1 hlk
              clear hc
              go_wp2_with fail
              go_ret
              exact ⟨by rw [Hm.out, Hf.out]; first | done | rfl, up1 Hb.out (Nat.le_refl _) _⟩
          · rw [if_neg hk] at hlk
            obtain ⟨w5, hrun, hM5, hg5⟩ := hMa.update (string_kind Try.underlying9) Try.underlying46 m.k (.bool true)
            have Hok2 := Lib.hid (wsB_snoc Hx.out Hok.out hc hk)
            have HM5 := Lib.hid hM5
            have Hb5 := Lib.hid (show Below w.heap.size w w5 from (up1 Hb.out (Nat.le_refl _) _).grown hg5 (by simp; omega) (fun k hk => by cases hk; omega))
            clear hMa hk hM5 hg5
            rcases hc with hc | hc
            all_goals
              rw [hc] at e1 hlk hrun
              clear hc
              go_wp2_with fail
              go_roundg (ws.length - (n + 1))
              case measure => omega
              case rel => exact ⟨n + 1, by go_num, by omega, rfl, Hok2.out, ⟨_, HM5.out, by rw [keys_snoc Hx.out]; exact HS.out.put _⟩, Hb5.out⟩
        · have Hf := Lib.hid (wsB_kind (List.mem_of_getElem? Hx.out) (fun h => hc (.inl h)) (fun h => hc (.inr h)))
          have c1 : (m.c != 1) = true := by simp; omega
          have c2 : (m.c != 2) = true := by simp; omega
          have d1 : ¬ m.c = 1 := fun h => hc (.inl h)
          have d2 : ¬ m.c = 2 := fun h => hc (.inr h)
          clear hMa hlk hc
          go_wp2_with fail
          go_ret
          exact ⟨by rw [Hm.out, Hf.out]; first | done | rfl, up1 Hb.out (Nat.le_refl _) _⟩
      · obtain rfl : n = ws.length := by omega
        have Hf := Lib.hid (show wsB ws = true by have := Hok.out; rwa [List.take_length] at this)
        clear hb
        go_wp2_with fail
        go_ret
        exact ⟨by rw [Hm.out, Hf.out]; first | done | rfl, Hb.out⟩
end Go.Proofs.Ytghmjconljdapaa
