/- Plain laws of transactions that come one after the other. -/
import Derived.Test.YtghmjconljdapaaP2
namespace Go.Proofs.Ytghmjconljdapaa

def okC (m : Mt) : Bool := decide (m.c = 1) || decide (m.c = 2)

/-- One write more, where it may be. -/
def hasK (ks : List Mt) (key : ByteArray) : Bool := ks.any fun x => decide (x.k = key)

theorem hasK_iff {ks : List Mt} {key : ByteArray} : hasK ks key = true ↔ key ∈ ks.map (·.k) := by
  unfold hasK
  rw [List.any_eq_true, List.mem_map]
  exact ⟨fun ⟨x, h1, h2⟩ => ⟨x, h1, by simpa using h2⟩, fun ⟨x, h1, h2⟩ => ⟨x, h1, by simpa using h2⟩⟩

def keepStep (ks : List Mt) (m : Mt) : List Mt := if (hasK ks m.k || !okC m) = true then ks else ks ++ [m]
def keptOf (ws : List Mt) : List Mt := ws.foldl keepStep []

def Now := ByteArray → Option ByteArray
def nowStep (now : Now) (m : Mt) : Now := fun key => if key = m.k then (if m.c = 2 then none else some m.v) else now key

def readOf (now : Now) (m : Mt) : Rd := ⟨m.k, (now m.k).getD { data := #[] }, (now m.k).isSome⟩
def newTx (i : Nat) (ks : List Mt) (now : Now) : Tx := ⟨2 * i + 1, 2 * i + 2, ks.map (readOf now), ks⟩

theorem keep_ok {ks : List Mt} (h : wsB ks = true) (m : Mt) : wsB (keepStep ks m) = true := by
  unfold keepStep
  by_cases hc : (hasK ks m.k || !okC m) = true
  · rw [if_pos hc]; exact h
  · rw [if_neg hc]
    have hc : ¬ m.k ∈ ks.map (·.k) ∧ okC m = true := by
      rw [Bool.or_eq_true, not_or, hasK_iff] at hc
      exact ⟨hc.1, by simpa using hc.2⟩
    have h1 : (ks ++ [m]).take ks.length = ks := by simp
    have h2 : (ks ++ [m])[ks.length]? = some m := by simp
    have := wsB_snoc (ws := ks ++ [m]) (n := ks.length) h2 (by rw [h1]; exact h) (by have := hc.2; unfold okC at this; simpa using this) (by rw [h1]; exact hc.1)
    rwa [List.take_of_length_le (by simp)] at this

theorem kept_ok : ∀ (ws : List Mt) (ks : List Mt), wsB ks = true → wsB (ws.foldl keepStep ks) = true := by
  intro ws
  induction ws with
  | nil => intro ks h; exact h
  | cons a ws ih => intro ks h; exact ih _ (keep_ok h a)

theorem kept_len : ∀ (ws : List Mt) (ks : List Mt), (ws.foldl keepStep ks).length ≤ ks.length + ws.length := by
  intro ws
  induction ws with
  | nil => intro ks; simp
  | cons a ws ih =>
    intro ks
    rw [List.foldl_cons]
    have := ih (keepStep ks a)
    have h2 : (keepStep ks a).length ≤ ks.length + 1 := by
      unfold keepStep
      split
      · omega
      · rw [List.length_append, List.length_singleton]; omega
    rw [List.length_cons]
    omega

theorem fold_now {key : ByteArray} : ∀ {ks : List Mt} (now : Now), (ks.map (·.k)).Nodup → (ks.foldl nowStep now) key = match wroteOf key ks with | some m => if m.c = 2 then none else some m.v | none => now key := by
  intro ks
  induction ks with
  | nil => intro now _; rfl
  | cons a ks ih =>
    intro now hn
    rw [List.map_cons, List.nodup_cons] at hn
    rw [List.foldl_cons, ih _ hn.2]
    unfold wroteOf
    rw [List.find?_cons]
    by_cases h : (a.k.toList == key.toList) = true
    · rw [h]
      have e : a.k = key := by rw [beq_toList_eq, decide_eq_true_eq] at h; exact h
      have hnone : ks.find? (fun m => m.k.toList == key.toList) = none := by
        rw [List.find?_eq_none]
        intro x hx hxe
        rw [beq_toList_eq, decide_eq_true_eq] at hxe
        exact hn.1 (by rw [e, ← hxe]; exact List.mem_map.2 ⟨x, hx, rfl⟩)
      rw [hnone]
      simp only [nowStep]
      rw [if_pos e.symm]
    · have h' : (a.k.toList == key.toList) = false := by simpa using h
      rw [h']
      have hne : ¬ key = a.k := by
        intro e
        rw [beq_toList_eq, decide_eq_false_iff_not] at h'
        exact h' e.symm
      have : nowStep now a key = now key := by simp only [nowStep]; rw [if_neg hne]
      rw [this]

/-- Transactions one after the other, each reading what is there. -/
structure Ser (l : List Tx) (now : Now) : Prop where
  tx : ∀ (k : Nat) (x : Tx), l[k]? = some x → x.s = 2 * (k : Int) + 1 ∧ x.t = 2 * (k : Int) + 2 ∧ wsB x.ws = true
  rd : ∀ (k : Nat) (x : Tx), l[k]? = some x → ∀ r ∈ x.rs, badR l x r = false
  now : ∀ key T, 2 * (l.length : Int) ≤ T → valueOf l key T = now key

theorem Ser.nil : Ser [] (fun _ => none) := ⟨by simp, by simp, fun key T _ => rfl⟩

theorem value_late {l : List Tx} {x : Tx} {key : ByteArray} {T : Int} (h : T < x.t) : valueOf (l ++ [x]) key T = valueOf l key T := by
  unfold valueOf lastOf
  rw [List.foldl_append]
  have : [x].foldl (valStep key T) (l.foldl (valStep key T) (0, none)) = l.foldl (valStep key T) (0, none) := by
    show valStep key T _ x = _
    unfold valStep
    cases wroteOf key x.ws with
    | none => rfl
    | some m => simp only; rw [if_neg (by omega)]
  rw [this]

theorem Ser.last {l : List Tx} {now : Now} (h : Ser l now) (key : ByteArray) (T : Int) : (lastOf l key T).1 ≤ 2 * (l.length : Int) := by
  rcases lastOf_is l key T with ⟨h1, _⟩ | ⟨x, hx, m, _, _, h3, _⟩
  · rw [(last_inv l key T).1 h1]; omega
  · obtain ⟨k, hk⟩ := List.mem_iff_getElem?.1 hx
    have hlt := (List.getElem?_eq_some_iff.1 hk).1
    have := (h.tx k x hk).2.1
    omega

theorem Ser.step {l : List Tx} {now : Now} (h : Ser l now) {ks : List Mt} (hk : wsB ks = true) : Ser (l ++ [newTx l.length ks now]) (ks.foldl nowStep now) := by
  have hget : ∀ (k : Nat) (x : Tx), (l ++ [newTx l.length ks now])[k]? = some x → (l[k]? = some x) ∨ (k = l.length ∧ x = newTx l.length ks now) := by
    intro k x hx
    by_cases hlt : k < l.length
    · rw [List.getElem?_append_left hlt] at hx; exact .inl hx
    · have h2 := (List.getElem?_eq_some_iff.1 hx).1
      simp at h2
      obtain rfl : k = l.length := by omega
      simp at hx
      exact .inr ⟨rfl, hx.symm⟩
  refine ⟨fun k x hx => ?_, fun k x hx r hr => ?_, fun key T hT => ?_⟩
  · rcases hget k x hx with h1 | ⟨rfl, rfl⟩
    · exact h.tx k x h1
    · exact ⟨rfl, rfl, hk⟩
  · rcases hget k x hx with h1 | ⟨rfl, rfl⟩
    · have hlt := (List.getElem?_eq_some_iff.1 h1).1
      have hs := (h.tx k x h1).1
      have := h.rd k x h1 r hr
      unfold badR at this ⊢
      rw [value_late (by show x.s < 2 * (l.length : Int) + 2; omega)]
      exact this
    · obtain ⟨m, hm, rfl⟩ := List.mem_map.1 hr
      unfold badR
      have hv : valueOf (l ++ [newTx l.length ks now]) (readOf now m).k (newTx l.length ks now).s = now m.k := by
        rw [value_late (by show 2 * (l.length : Int) + 1 < 2 * (l.length : Int) + 2; omega)]
        exact h.now _ _ (by show 2 * (l.length : Int) ≤ 2 * (l.length : Int) + 1; omega)
      rw [hv]
      simp [readOf]
  · rw [fold_now _ ((wsB_iff ks).1 hk).2]
    rw [List.length_append, List.length_singleton] at hT
    have hl := h.last key T
    have hnow := h.now key T (by omega)
    have he : lastOf (l ++ [newTx l.length ks now]) key T = valStep key T (lastOf l key T) (newTx l.length ks now) := by
      unfold lastOf
      rw [List.foldl_append]
      rfl
    unfold valueOf
    rw [he]
    unfold valStep
    show (match (match wroteOf key ks with | some m => _ | none => _ : Int × Option Mt).2 with | some m => _ | none => _) = _
    cases hw : wroteOf key ks with
    | none => exact hnow
    | some m =>
      simp only
      rw [if_pos ⟨by show _ < 2 * (l.length : Int) + 2; omega, by show 2 * (l.length : Int) + 2 ≤ T; omega⟩]

theorem Ser.may {l : List Tx} {now : Now} (h : Ser l now) (hl : l.length ≤ 1000) : mayL l = true := by
  rw [mayL_iff]
  constructor
  · intro x hx
    obtain ⟨k, hk⟩ := List.mem_iff_getElem?.1 hx
    have hlt := (List.getElem?_eq_some_iff.1 hk).1
    obtain ⟨h1, h2, h3⟩ := h.tx k x hk
    rw [mayB_iff]
    exact ⟨by omega, by omega, by omega, by omega, h3⟩
  · unfold times
    rw [List.nodup_iff_pairwise_ne, List.pairwise_flatMap]
    constructor
    · intro x hx
      obtain ⟨k, hk⟩ := List.mem_iff_getElem?.1 hx
      obtain ⟨h1, h2, h3⟩ := h.tx k x hk
      unfold timesOf
      rw [if_pos (by omega)]
      simp
      omega
    · rw [List.pairwise_iff_getElem]
      intro i j hi hj hij a ha b hb
      obtain ⟨a1, a2, _⟩ := h.tx i l[i] (by simp)
      obtain ⟨b1, b2, _⟩ := h.tx j l[j] (by simp)
      unfold timesOf at ha hb
      rw [if_pos (by omega)] at ha hb
      simp at ha hb
      omega

theorem Ser.clean {l : List Tx} {now : Now} (h : Ser l now) (hl : l.length ≤ 1000) : faultOf l = noFlt ∧ errOf l = 0 := by
  have hs : staleOf l = none := scan_none.2 fun i x hx => by
    unfold staleT
    split
    · rfl
    · refine scan_none.2 fun j r hr => ?_
      unfold staleR
      rw [h.rd i x hx r (List.mem_of_getElem? hr)]
      rfl
  have ho : lostOf l = none := scan_none.2 fun i x hx => scan_none.2 fun j y hy => by
    obtain ⟨a1, a2, _⟩ := h.tx i x hx
    obtain ⟨b1, b2, _⟩ := h.tx j y hy
    unfold lostJ
    rw [if_pos (by omega)]
  unfold faultOf errOf
  rw [h.may hl, hs, ho]
  exact ⟨rfl, rfl⟩

end Go.Proofs.Ytghmjconljdapaa
