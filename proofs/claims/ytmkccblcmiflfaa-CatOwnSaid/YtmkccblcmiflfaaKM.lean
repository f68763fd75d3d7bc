/- Maps in memory, as lists of keys and values: look up, store, delete. No condition beyond those that each theorem states. -/
import Derived.Test.YtmkccblcmiflfaaG1
import Derived.Maps.Own
import Derived.Maps.OwnOps
import Derived.Maps.OwnSet
import Derived.StringKeys
import Derived.Sort.KeysCollected
namespace Go.Proofs.Ytmkccblcmiflfaa
open Go.RowKit Go.Maps Go.WideMaps

section
variable {κ β : Type} [DecidableEq κ]
def hasL (L : List (κ × β)) (k : κ) : Bool := L.any fun q => decide (q.1 = k)
def getL (z : β) (L : List (κ × β)) (k : κ) : β := ((L.find? fun q => decide (q.1 = k)).map Prod.snd).getD z
def delL (L : List (κ × β)) (k : κ) : List (κ × β) := L.filter fun q => !decide (q.1 = k)
def putL (L : List (κ × β)) (k : κ) (v : β) : List (κ × β) := delL L k ++ [(k, v)]
theorem hasL_mem {L : List (κ × β)} {k : κ} : hasL L k = true ↔ k ∈ L.map Prod.fst := by simp [hasL]
theorem hasL_del (L : List (κ × β)) (k x : κ) : hasL (delL L k) x = (hasL L x && !decide (x = k)) := by
  rw [Bool.eq_iff_iff, Bool.and_eq_true, hasL_mem, hasL_mem]
  simp only [delL, List.mem_map, List.mem_filter]
  constructor
  · rintro ⟨q, ⟨h1, h2⟩, rfl⟩
    exact ⟨⟨q, h1, rfl⟩, by simpa using h2⟩
  · rintro ⟨⟨q, h1, rfl⟩, h2⟩
    exact ⟨q, ⟨h1, by simpa using h2⟩, rfl⟩
theorem getL_del (z : β) {L : List (κ × β)} {k x : κ} (h : x ≠ k) : getL z (delL L k) x = getL z L x := by
  unfold getL delL
  rw [List.find?_filter]
  congr 2
  apply congrFun
  congr 1
  funext q
  by_cases hq : q.1 = x
  · simp [hq, h]
  · simp [hq]
theorem getL_no (z : β) {L : List (κ × β)} {k : κ} (h : hasL L k = false) : getL z L k = z := by
  unfold getL
  have : L.find? (fun q => decide (q.1 = k)) = none := by
    rw [List.find?_eq_none]
    intro q hq hk
    unfold hasL at h
    rw [List.any_eq_false] at h
    exact h q hq hk
  rw [this]; rfl
theorem getL_snoc_same (z : β) {L : List (κ × β)} {k : κ} {v : β} (h : hasL L k = false) : getL z (L ++ [(k, v)]) k = v := by
  unfold getL
  have : L.find? (fun q => decide (q.1 = k)) = none := by
    rw [List.find?_eq_none]
    intro q hq hk
    unfold hasL at h
    rw [List.any_eq_false] at h
    exact h q hq hk
  rw [List.find?_append, this]
  simp
theorem getL_snoc_other (z : β) {L : List (κ × β)} {k x : κ} {v : β} (h : x ≠ k) : getL z (L ++ [(k, v)]) x = getL z L x := by
  unfold getL
  rw [List.find?_append]
  have : ¬ k = x := fun e => h e.symm
  cases L.find? (fun q => decide (q.1 = x)) <;> simp [this]
theorem hasL_put (L : List (κ × β)) (k : κ) (v : β) (x : κ) : hasL (putL L k v) x = (hasL L x || decide (x = k)) := by
  unfold putL
  have : hasL (delL L k ++ [(k, v)]) x = (hasL (delL L k) x || decide (k = x)) := by simp [hasL]
  rw [this, hasL_del]
  by_cases h : x = k
  · simp [h]
  · have h' : ¬ k = x := fun e => h e.symm
    simp [h, h']
theorem getL_put_same (z : β) (L : List (κ × β)) (k : κ) (v : β) : getL z (putL L k v) k = v := getL_snoc_same z (by rw [hasL_del]; simp)
theorem getL_put_other (z : β) (L : List (κ × β)) {k x : κ} (v : β) (h : x ≠ k) : getL z (putL L k v) x = getL z L x := by
  unfold putL
  rw [getL_snoc_other z h, getL_del z h]
theorem nodup_del {L : List (κ × β)} (h : (L.map Prod.fst).Nodup) (k : κ) : ((delL L k).map Prod.fst).Nodup := h.sublist ((List.filter_sublist).map _)
theorem nodup_put {L : List (κ × β)} (h : (L.map Prod.fst).Nodup) (k : κ) (v : β) : ((putL L k v).map Prod.fst).Nodup := by
  unfold putL
  rw [List.map_append, List.nodup_append]
  refine ⟨nodup_del h k, by simp, fun a ha b hb e => ?_⟩
  have hb : b = k := by simpa using hb
  subst hb
  subst e
  have := hasL_mem.2 ha
  rw [hasL_del] at this
  simp at this
theorem getL_mem (z : β) {L : List (κ × β)} {k : κ} (h : hasL L k = true) : (k, getL z L k) ∈ L := by
  unfold getL
  cases hf : L.find? (fun q => decide (q.1 = k)) with
  | none =>
    rw [List.find?_eq_none] at hf
    rw [hasL_mem, List.mem_map] at h
    obtain ⟨q, hq, rfl⟩ := h
    exact absurd (by simp) (hf q hq)
  | some q =>
    have h1 := List.mem_of_find?_eq_some hf
    have h2 := List.find?_some hf
    have h3 : q.1 = k := by simpa using h2
    subst h3
    exact h1
theorem getL_at (z : β) {L : List (κ × β)} (h : (L.map Prod.fst).Nodup) {k : κ} {v : β} (hq : (k, v) ∈ L) : getL z L k = v := by
  have h1 := getL_mem z (hasL_mem.2 (List.mem_map.2 ⟨_, hq, rfl⟩))
  have key : ∀ (L : List (κ × β)), (L.map Prod.fst).Nodup → ∀ a b : β, (k, a) ∈ L → (k, b) ∈ L → a = b := by
    intro L
    induction L with
    | nil => intro _ a b ha; cases ha
    | cons x L ih =>
      intro hn a b ha hb
      rw [List.map_cons, List.nodup_cons] at hn
      rcases List.mem_cons.1 ha with ha | ha <;> rcases List.mem_cons.1 hb with hb | hb
      · rw [← ha] at hb; injection hb with _ h; exact h.symm
      · exact absurd (List.mem_map.2 ⟨_, hb, rfl⟩) (by rw [← ha] at hn; exact hn.1)
      · exact absurd (List.mem_map.2 ⟨_, ha, rfl⟩) (by rw [← hb] at hn; exact hn.1)
      · exact ih hn.2 a b ha hb
  exact key L h _ _ h1 hq
end

/-- How an element reads: it is held as it is. -/
def anyE (v : Value) : Option (DataW Value × List MemPlace) := some (.held v, [])
theorem anyE_inv {v u : Value} {ps : List MemPlace} (h : anyE v = some (.held u, ps)) : v = u := by
  simp only [anyE, Option.some.injEq, Prod.mk.injEq, DataW.held.injEq] at h
  exact h.1
/-- How the keys of a type read. -/
structure KeyForm (P : Program) (kt : TypeId) (κ : Type) where
  lit : κ → Lit
  val : κ → Value
  ok : κ → Prop
  inj : ∀ a b, lit a = lit b → a = b
  isk : ∀ a, WideAt.IsKeyLit (lit a)
  key : ∀ a, ok a → keyOf P kt (val a) = some (lit a)
  law : Keyed P kt
def strKey {P : Program} {kt : TypeId} (hu : P.underlying kt = some .string) : KeyForm P kt (List UInt8) where
  lit := .string
  val := encStr
  ok := fun l => l.length ≤ maxLen
  inj := fun a b h => by injection h
  isk := fun _ => trivial
  key := fun l h => by
    have := keyOf_string_mk (P := P) (k := kt) hu (s := ⟨l.toArray⟩) (by simpa [ByteArray.size] using h)
    simpa [encStr] using this
  law := string_keyed hu
def intKey {P : Program} {kt : TypeId} (hu : P.underlying kt = some (.int .i64)) : KeyForm P kt Int where
  lit := .int .i64
  val := .int .i64
  ok := fun n => (Lit.int .i64 n).wf = true
  inj := fun a b h => by injection h
  isk := fun _ => trivial
  key := fun n h => keyOf_int_mk hu h
  law := int_keyed hu

section
variable {P : Program} {kt : TypeId} {κ : Type} [DecidableEq κ] {F : KeyForm P kt κ} {z : Value} {w w' : World} {b N : Nat} {L : List (κ × Value)}
/-- Block b holds a map of these keys and values (N: no more entries than that were ever laid). -/
structure MapAt (F : KeyForm P kt κ) (z : Value) (w : World) (b N : Nat) (L : List (κ × Value)) : Prop where intro ::
  ex : ∃ D, w.ownsMap P kt anyE b N D ∧ (∀ k, Maps.has D (F.lit k) = hasL L k) ∧ (∀ k, D.atKey (F.lit k) (.held z) = .held (getL z L k))
  nd : (L.map Prod.fst).Nodup
theorem MapAt.lt (h : MapAt F z w b N L) : b < w.heap.size := by
  obtain ⟨D, h1, _⟩ := h.ex
  exact h1.lt
theorem MapAt.is_map (h : MapAt F z w b N L) : ∃ es clock, w.heap[b]? = some (.map es clock) := by
  obtain ⟨D, ⟨es, clock, hb, _⟩, _⟩ := h.ex
  exact ⟨es, clock, hb⟩
theorem MapAt.of_eq (h : MapAt F z w b N L) (he : w'.heap[b]? = w.heap[b]?) : MapAt F z w' b N L := by
  obtain ⟨⟨D, ⟨es, clock, hb, h1⟩, h2⟩, h3⟩ := h
  exact ⟨⟨D, ⟨es, clock, he.trans hb, h1⟩, h2⟩, h3⟩
theorem MapAt.mono {M : Nat} (h : MapAt F z w b N L) (hM : N ≤ M) : MapAt F z w b M L := by
  obtain ⟨⟨D, h1, h2⟩, h3⟩ := h
  exact ⟨⟨D, h1.mono hM, h2⟩, h3⟩
theorem MapAt.made (F : KeyForm P kt κ) (z : Value) (w : World) : MapAt F z (w.alloc (.map #[] 0)) w.heap.size 0 [] :=
  ⟨⟨.map [], World.ownsMap_made w P kt anyE, fun _ => rfl, fun _ => rfl⟩, by simp⟩
theorem blk_apart {k : Nat} {t : TypeId} {cs : Array Value} (h : Blk w k t cs) (hm : MapAt F z w b N L) : k ≠ b := fun e => by
  subst e
  obtain ⟨es, clock, hb⟩ := hm.is_map
  unfold Blk at h
  rw [hb] at h
  cases h
theorem MapAt.look (h : MapAt F z w b N L) {t e : TypeId} (ht : P.underlying t = some (.map kt e)) (hz : (zeroValue e).run P w = .ok z w) {k : κ} (hk : F.ok k) :
    (Instr.lookup t (.map (some b)) (F.val k) true).run P w = .ok (.tuple #[getL z L k, .bool (hasL L k)]) w := by
  obtain ⟨⟨D, h1, h2, h3⟩, _⟩ := h
  obtain ⟨v, ps, hrun, hv⟩ := h1.look_ok F.law ht hz (R := anyE) (zd := .held z) (zp := []) rfl (F.key k hk)
  rw [h3] at hv
  rw [hrun, h2, anyE_inv hv]
theorem MapAt.look1 (h : MapAt F z w b N L) {t e : TypeId} (ht : P.underlying t = some (.map kt e)) (hz : (zeroValue e).run P w = .ok z w) {k : κ} (hk : F.ok k) :
    (Instr.lookup t (.map (some b)) (F.val k) false).run P w = .ok (getL z L k) w := by
  obtain ⟨⟨D, h1, h2, h3⟩, _⟩ := h
  obtain ⟨v, ps, hrun, hv⟩ := h1.lookup F.law ht hz (R := anyE) (zd := .held z) (zp := []) rfl (F.key k hk)
  rw [h3] at hv
  rw [hrun, anyE_inv hv]
theorem MapAt.store (h : MapAt F z w b N L) {t e : TypeId} (ht : P.underlying t = some (.map kt e)) (hN : N < maxLen) {k : κ} (hk : F.ok k) (v : Value) :
    ∃ w', (Instr.mapUpdate t (.map (some b)) (F.val k) v).run P w = .ok () w' ∧ MapAt F z w' b (N + 1) (putL L k v) ∧ w.grownBy w' (some b) := by
  obtain ⟨⟨D, h1, h2, h3⟩, h4⟩ := h
  obtain ⟨w', hrun, ho, hg⟩ := h1.update F.law ht hN (F.key k hk) (d := .held v) (ps := []) (val := v) rfl
  have hm := (h1.tidy F.law).isMap
  refine ⟨w', hrun, ⟨⟨_, ho, fun x => ?_, fun x => ?_⟩, nodup_put h4 k v⟩, hg⟩
  · rw [hasL_put]
    by_cases hx : x = k
    · subst hx
      rw [has_put_same hm (F.isk x)]
      simp
    · rw [has_put_other (fun e => hx (F.inj _ _ e)), h2 x]
      simp [hx]
  · by_cases hx : x = k
    · subst hx
      rw [atKey_put_same hm (F.isk x), getL_put_same]
    · rw [atKey_put_other (fun e => hx (F.inj _ _ e)), h3 x, getL_put_other z L v hx]
theorem MapAt.drop (h : MapAt F z w b N L) {t e : TypeId} (ht : P.underlying t = some (.map kt e)) {k : κ} (hk : F.ok k) (ty : TypeId) :
    ∃ w', (Builtin.delete_ #[t, kt] ty #[.map (some b), F.val k]).run P w = .ok (.tuple #[]) w' ∧ MapAt F z w' b N (delL L k) ∧ w.grownBy w' (some b) := by
  obtain ⟨⟨D, h1, h2, h3⟩, h4⟩ := h
  obtain ⟨w', hrun, ho, hg⟩ := h1.drop F.law ht (F.key k hk) ty
  refine ⟨w', hrun, ⟨⟨_, ho, fun x => ?_, fun x => ?_⟩, nodup_del h4 k⟩, hg.grown⟩
  · rw [hasL_del]
    by_cases hx : x = k
    · subst hx
      rw [has_del_same]
      simp
    · rw [has_del_other (fun e => hx (F.inj _ _ e)), h2 x]
      simp [hx]
  · by_cases hx : x = k
    · subst hx
      rw [atKey_del_same, getL_no z (by rw [hasL_del]; simp)]
    · rw [atKey_del_other (fun e => hx (F.inj _ _ e)), h3 x, getL_del z hx]
end
end Go.Proofs.Ytmkccblcmiflfaa
