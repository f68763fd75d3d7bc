/- Maps in memory, as lists of keys and values, keyed by structs too: look up, store, range. No condition beyond those that each theorem states. -/
import Derived.Test.YthceidacmeadkaaG1
import Derived.Maps.Own
import Derived.Maps.OwnOps
import Derived.Maps.OwnSet
import Derived.StringKeys
import Derived.Sort.KeysCollected
import Derived.Maps.RangeWalk
namespace Go.Proofs.Ythceidacmeadkaa
open Go.RowKit Go.Maps Go.WideMaps

section
variable {κ β : Type} [DecidableEq κ]
def hasL (L : List (κ × β)) (k : κ) : Bool := L.any fun q => decide (q.1 = k)
def getL (z : β) (L : List (κ × β)) (k : κ) : β := ((L.find? fun q => decide (q.1 = k)).map Prod.snd).getD z
def delL (L : List (κ × β)) (k : κ) : List (κ × β) := L.filter fun q => !decide (q.1 = k)
def putL (L : List (κ × β)) (k : κ) (v : β) : List (κ × β) := delL L k ++ [(k, v)]
theorem hasL_mem {L : List (κ × β)} {k : κ} : hasL L k = true ↔ k ∈ L.map Prod.fst := by simp [hasL]
theorem hasL_del (L : List (κ × β)) (k x : κ) : hasL (delL L k) x = (hasL L x && !decide (x = k)) := by
  rw [Bool.eq_iff_iff, Bool.and_eq_true, hasL_mem, hasL_mem]
  simp only [delL, List.mem_map, List.mem_filter]
  constructor
  · rintro ⟨q, ⟨h1, h2⟩, rfl⟩
    exact ⟨⟨q, h1, rfl⟩, by simpa using h2⟩
  · rintro ⟨⟨q, h1, rfl⟩, h2⟩
    exact ⟨q, ⟨h1, by simpa using h2⟩, rfl⟩
theorem getL_del (z : β) {L : List (κ × β)} {k x : κ} (h : x ≠ k) : getL z (delL L k) x = getL z L x := by
  unfold getL delL
  rw [List.find?_filter]
  congr 2
  apply congrFun
  congr 1
  funext q
  by_cases hq : q.1 = x
  · simp [hq, h]
  · simp [hq]
theorem getL_no (z : β) {L : List (κ × β)} {k : κ} (h : hasL L k = false) : getL z L k = z := by
  unfold getL
  have : L.find? (fun q => decide (q.1 = k)) = none := by
    rw [List.find?_eq_none]
    intro q hq hk
    unfold hasL at h
    rw [List.any_eq_false] at h
    exact h q hq hk
  rw [this]; rfl
theorem getL_snoc_same (z : β) {L : List (κ × β)} {k : κ} {v : β} (h : hasL L k = false) : getL z (L ++ [(k, v)]) k = v := by
  unfold getL
  have : L.find? (fun q => decide (q.1 = k)) = none := by
    rw [List.find?_eq_none]
    intro q hq hk
    unfold hasL at h
    rw [List.any_eq_false] at h
    exact h q hq hk
  rw [List.find?_append, this]
  simp
theorem getL_snoc_other (z : β) {L : List (κ × β)} {k x : κ} {v : β} (h : x ≠ k) : getL z (L ++ [(k, v)]) x = getL z L x := by
  unfold getL
  rw [List.find?_append]
  have : ¬ k = x := fun e => h e.symm
  cases L.find? (fun q => decide (q.1 = x)) <;> simp [this]
theorem hasL_put (L : List (κ × β)) (k : κ) (v : β) (x : κ) : hasL (putL L k v) x = (hasL L x || decide (x = k)) := by
  unfold putL
  have : hasL (delL L k ++ [(k, v)]) x = (hasL (delL L k) x || decide (k = x)) := by simp [hasL]
  rw [this, hasL_del]
  by_cases h : x = k
  · simp [h]
  · have h' : ¬ k = x := fun e => h e.symm
    simp [h, h']
theorem getL_put_same (z : β) (L : List (κ × β)) (k : κ) (v : β) : getL z (putL L k v) k = v := getL_snoc_same z (by rw [hasL_del]; simp)
theorem getL_put_other (z : β) (L : List (κ × β)) {k x : κ} (v : β) (h : x ≠ k) : getL z (putL L k v) x = getL z L x := by
  unfold putL
  rw [getL_snoc_other z h, getL_del z h]
theorem nodup_del {L : List (κ × β)} (h : (L.map Prod.fst).Nodup) (k : κ) : ((delL L k).map Prod.fst).Nodup := h.sublist ((List.filter_sublist).map _)
theorem nodup_put {L : List (κ × β)} (h : (L.map Prod.fst).Nodup) (k : κ) (v : β) : ((putL L k v).map Prod.fst).Nodup := by
  unfold putL
  rw [List.map_append, List.nodup_append]
  refine ⟨nodup_del h k, by simp, fun a ha b hb e => ?_⟩
  have hb : b = k := by simpa using hb
  subst hb
  subst e
  have := hasL_mem.2 ha
  rw [hasL_del] at this
  simp at this
theorem getL_mem (z : β) {L : List (κ × β)} {k : κ} (h : hasL L k = true) : (k, getL z L k) ∈ L := by
  unfold getL
  cases hf : L.find? (fun q => decide (q.1 = k)) with
  | none =>
    rw [List.find?_eq_none] at hf
    rw [hasL_mem, List.mem_map] at h
    obtain ⟨q, hq, rfl⟩ := h
    exact absurd (by simp) (hf q hq)
  | some q =>
    have h1 := List.mem_of_find?_eq_some hf
    have h2 := List.find?_some hf
    have h3 : q.1 = k := by simpa using h2
    subst h3
    exact h1
theorem getL_at (z : β) {L : List (κ × β)} (h : (L.map Prod.fst).Nodup) {k : κ} {v : β} (hq : (k, v) ∈ L) : getL z L k = v := by
  have h1 := getL_mem z (hasL_mem.2 (List.mem_map.2 ⟨_, hq, rfl⟩))
  have key : ∀ (L : List (κ × β)), (L.map Prod.fst).Nodup → ∀ a b : β, (k, a) ∈ L → (k, b) ∈ L → a = b := by
    intro L
    induction L with
    | nil => intro _ a b ha; cases ha
    | cons x L ih =>
      intro hn a b ha hb
      rw [List.map_cons, List.nodup_cons] at hn
      rcases List.mem_cons.1 ha with ha | ha <;> rcases List.mem_cons.1 hb with hb | hb
      · rw [← ha] at hb; injection hb with _ h; exact h.symm
      · exact absurd (List.mem_map.2 ⟨_, hb, rfl⟩) (by rw [← ha] at hn; exact hn.1)
      · exact absurd (List.mem_map.2 ⟨_, ha, rfl⟩) (by rw [← hb] at hn; exact hn.1)
      · exact ih hn.2 a b ha hb
  exact key L h _ _ h1 hq
end

/-- How an element reads: it is held as it is. -/
def anyE (v : Value) : Option (DataW Value × List MemPlace) := some (.held v, [])
theorem anyE_inv {v u : Value} {ps : List MemPlace} (h : anyE v = some (.held u, ps)) : v = u := by
  simp only [anyE, Option.some.injEq, Prod.mk.injEq, DataW.held.injEq] at h
  exact h.1
/-- How the keys of a type read. -/
structure KeyForm (P : Program) (kt : TypeId) (κ : Type) where
  lit : κ → Lit
  val : κ → Value
  ok : κ → Prop
  inj : ∀ a b, ok a → ok b → lit a = lit b → a = b
  isk : ∀ a, WideAt.IsKeyLit (lit a)
  key : ∀ a, ok a → keyOf P kt (val a) = some (lit a)
  law : Keyed P kt
def strKey {P : Program} {kt : TypeId} (hu : P.underlying kt = some .string) : KeyForm P kt (List UInt8) where
  lit := .string
  val := encStr
  ok := fun l => l.length ≤ maxLen
  inj := fun a b _ _ h => by injection h
  isk := fun _ => trivial
  key := fun l h => by
    have := keyOf_string_mk (P := P) (k := kt) hu (s := ⟨l.toArray⟩) (by simpa [ByteArray.size] using h)
    simpa [encStr] using this
  law := string_keyed hu
def intKey {P : Program} {kt : TypeId} (hu : P.underlying kt = some (.int .i64)) : KeyForm P kt Int where
  lit := .int .i64
  val := .int .i64
  ok := fun n => (Lit.int .i64 n).wf = true
  inj := fun a b _ _ h => by injection h
  isk := fun _ => trivial
  key := fun n h => keyOf_int_mk hu h
  law := int_keyed hu

section
variable {P : Program} {kt : TypeId} {κ : Type} [DecidableEq κ] {F : KeyForm P kt κ} {z : Value} {w w' : World} {b N : Nat} {L : List (κ × Value)}
/-- Block b holds a map of these keys and values (N: no more entries than that were ever laid). -/
structure MapAt (F : KeyForm P kt κ) (z : Value) (w : World) (b N : Nat) (L : List (κ × Value)) : Prop where intro ::
  ex : ∃ D, w.ownsMap P kt anyE b N D ∧ (∀ k, F.ok k → Maps.has D (F.lit k) = hasL L k) ∧ (∀ k, F.ok k → D.atKey (F.lit k) (.held z) = .held (getL z L k)) ∧ ∀ kl, Maps.has D kl = true → ∃ k, F.ok k ∧ kl = F.lit k
  nd : (L.map Prod.fst).Nodup
  oks : ∀ q ∈ L, F.ok q.1
theorem MapAt.lt (h : MapAt F z w b N L) : b < w.heap.size := by
  obtain ⟨D, h1, _⟩ := h.ex
  exact h1.lt
theorem MapAt.is_map (h : MapAt F z w b N L) : ∃ es clock, w.heap[b]? = some (.map es clock) := by
  obtain ⟨D, ⟨es, clock, hb, _⟩, _⟩ := h.ex
  exact ⟨es, clock, hb⟩
theorem MapAt.of_eq (h : MapAt F z w b N L) (he : w'.heap[b]? = w.heap[b]?) : MapAt F z w' b N L := by
  obtain ⟨⟨D, ⟨es, clock, hb, h1⟩, h2⟩, h3, h4⟩ := h
  exact ⟨⟨D, ⟨es, clock, he.trans hb, h1⟩, h2⟩, h3, h4⟩
theorem MapAt.mono {M : Nat} (h : MapAt F z w b N L) (hM : N ≤ M) : MapAt F z w b M L := by
  obtain ⟨⟨D, h1, h2⟩, h3, h4⟩ := h
  exact ⟨⟨D, h1.mono hM, h2⟩, h3, h4⟩
theorem MapAt.made (F : KeyForm P kt κ) (z : Value) (w : World) : MapAt F z (w.alloc (.map #[] 0)) w.heap.size 0 [] :=
  ⟨⟨.map [], World.ownsMap_made w P kt anyE, fun _ _ => rfl, fun _ _ => rfl, fun _ h => by cases h⟩, by simp, fun _ h => by cases h⟩
theorem blk_apart {k : Nat} {t : TypeId} {cs : Array Value} (h : Blk w k t cs) (hm : MapAt F z w b N L) : k ≠ b := fun e => by
  subst e
  obtain ⟨es, clock, hb⟩ := hm.is_map
  unfold Blk at h
  rw [hb] at h
  cases h
theorem MapAt.look (h : MapAt F z w b N L) {t e : TypeId} (ht : P.underlying t = some (.map kt e)) (hz : (zeroValue e).run P w = .ok z w) {k : κ} (hk : F.ok k) :
    (Instr.lookup t (.map (some b)) (F.val k) true).run P w = .ok (.tuple #[getL z L k, .bool (hasL L k)]) w := by
  obtain ⟨⟨D, h1, h2, h3, _⟩, _, _⟩ := h
  obtain ⟨v, ps, hrun, hv⟩ := h1.look_ok F.law ht hz (R := anyE) (zd := .held z) (zp := []) rfl (F.key k hk)
  rw [h3 k hk] at hv
  rw [hrun, h2 k hk, anyE_inv hv]
theorem MapAt.look1 (h : MapAt F z w b N L) {t e : TypeId} (ht : P.underlying t = some (.map kt e)) (hz : (zeroValue e).run P w = .ok z w) {k : κ} (hk : F.ok k) :
    (Instr.lookup t (.map (some b)) (F.val k) false).run P w = .ok (getL z L k) w := by
  obtain ⟨⟨D, h1, h2, h3, _⟩, _, _⟩ := h
  obtain ⟨v, ps, hrun, hv⟩ := h1.lookup F.law ht hz (R := anyE) (zd := .held z) (zp := []) rfl (F.key k hk)
  rw [h3 k hk] at hv
  rw [hrun, anyE_inv hv]
theorem MapAt.store (h : MapAt F z w b N L) {t e : TypeId} (ht : P.underlying t = some (.map kt e)) (hN : N < maxLen) {k : κ} (hk : F.ok k) (v : Value) :
    ∃ w', (Instr.mapUpdate t (.map (some b)) (F.val k) v).run P w = .ok () w' ∧ MapAt F z w' b (N + 1) (putL L k v) ∧ w.grownBy w' (some b) := by
  obtain ⟨⟨D, h1, h2, h3, ha⟩, h4, ho4⟩ := h
  obtain ⟨w', hrun, ho, hg⟩ := h1.update F.law ht hN (F.key k hk) (d := .held v) (ps := []) (val := v) rfl
  have hm := (h1.tidy F.law).isMap
  refine ⟨w', hrun, ⟨⟨_, ho, fun x hx0 => ?_, fun x hx0 => ?_, fun kl hkl => ?_⟩, nodup_put h4 k v, fun q hq => ?_⟩, hg⟩
  · rw [hasL_put]
    by_cases hx : x = k
    · subst hx
      rw [has_put_same hm (F.isk x)]
      simp
    · rw [has_put_other (fun e => hx (F.inj _ _ hx0 hk e)), h2 x hx0]
      simp [hx]
  · by_cases hx : x = k
    · subst hx
      rw [atKey_put_same hm (F.isk x), getL_put_same]
    · rw [atKey_put_other (fun e => hx (F.inj _ _ hx0 hk e)), h3 x hx0, getL_put_other z L v hx]
  · by_cases hx : kl = F.lit k
    · exact ⟨k, hk, hx⟩
    · rw [has_put_other hx] at hkl
      exact ha kl hkl
  · unfold putL at hq
    rcases List.mem_append.1 hq with hq | hq
    · exact ho4 q (List.mem_filter.1 hq).1
    · rw [List.mem_singleton] at hq
      subst hq
      exact hk
theorem MapAt.some_ok (h : MapAt F z w b N L) {k : κ} (hk : hasL L k = true) : F.ok k := by
  have h1 := hasL_mem.1 hk
  obtain ⟨q, hq, rfl⟩ := List.mem_map.1 h1
  exact h.oks q hq
/-- r is an iterator over the map in b; left: is the entry of a key still to come? -/
structure RangeAt (F : KeyForm P kt κ) (z : Value) (w : World) (b r N : Nat) (L : List (κ × Value)) (left : κ → Bool) : Prop where intro ::
  ex : ∃ D leftD cnt, w.ranges P kt anyE b r N D leftD cnt ∧ (∀ k, F.ok k → Maps.has D (F.lit k) = hasL L k) ∧ (∀ k, F.ok k → D.atKey (F.lit k) (.held z) = .held (getL z L k)) ∧ (∀ kl, Maps.has D kl = true → ∃ k, F.ok k ∧ kl = F.lit k) ∧ ∀ k, F.ok k → leftD (F.lit k) = left k
  nd : (L.map Prod.fst).Nodup
  oks : ∀ q ∈ L, F.ok q.1
theorem RangeAt.map {r : Nat} {left : κ → Bool} (h : RangeAt F z w b r N L left) : MapAt F z w b N L := by
  obtain ⟨⟨D, lD, cnt, h1, h2, h3, h4, _⟩, h5, h6⟩ := h
  exact ⟨⟨D, h1.owns, h2, h3, h4⟩, h5, h6⟩
theorem RangeAt.lt {r : Nat} {left : κ → Bool} (h : RangeAt F z w b r N L left) : r < w.heap.size := by
  obtain ⟨⟨D, lD, cnt, h1, _⟩, _, _⟩ := h
  exact h1.lt
theorem RangeAt.kept {r : Nat} {left : κ → Bool} {row : Option Nat} (h : RangeAt F z w b r N L left) (hg : w.grownBy w' row) (hb : some b ≠ row) (hr : some r ≠ row) : RangeAt F z w' b r N L left := by
  obtain ⟨⟨D, lD, cnt, h1, h2, h3, h4, h5⟩, h6, h7⟩ := h
  exact ⟨⟨D, lD, cnt, h1.kept hg hb hr, h2, h3, h4, h5⟩, h6, h7⟩
theorem RangeAt.same_left {r : Nat} {left : κ → Bool} {row : Option Nat} (h : RangeAt F z w b r N L left) (hg : w.grownBy w' row) (hb : some b ≠ row) (hr : some r ≠ row) : w'.rangeLeft b r = w.rangeLeft b r := by
  obtain ⟨⟨D, lD, cnt, h1, _⟩, _, _⟩ := h
  rw [h1.left_eq, (h1.kept hg hb hr).left_eq]
theorem MapAt.range (h : MapAt F z w b N L) {t e : TypeId} (ht : P.underlying t = some (.map kt e)) :
    ∃ w', (Instr.range t (.map (some b))).run P w = .ok (.pointer (some ⟨w.heap.size, 0, none⟩)) w' ∧ RangeAt F z w' b w.heap.size N L (hasL L) ∧ w.grownBy w' none ∧ w'.heap.size = w.heap.size + 1 := by
  obtain ⟨⟨D, h1, h2, h3, h4⟩, h5, h6⟩ := h
  obtain ⟨w', hrun, hr, hg, hs⟩ := h1.range F.law ht
  exact ⟨w', hrun, ⟨⟨D, _, _, hr, h2, h3, h4, h2⟩, h5, h6⟩, hg, hs⟩
theorem has_of_at {D : DataW Value} {kl : Lit} {d : DataW Value} (hm : IsMap D) (h : ∀ zd, D.atKey kl zd = d) : Maps.has D kl = true := by
  obtain ⟨es, rfl⟩ := hm
  cases hh : Maps.has (DataW.map es) kl with
  | true => rfl
  | false =>
    have h2 : es.find? (fun p => p.1.sameKey kl) = none := by
      rw [List.find?_eq_none]
      intro p hp hk
      have h3 : es.any (fun p => p.1.sameKey kl) = true := List.any_eq_true.2 ⟨p, hp, hk⟩
      have h4 : es.any (fun p => p.1.sameKey kl) = false := hh
      rw [h3] at h4
      cases h4
    have h1 : ∀ zd : DataW Value, (DataW.map es).atKey kl zd = zd := fun zd => by
      simp [DataW.atKey, h2]
    have e1 := (h1 .nil).symm.trans (h .nil)
    have e2 := (h1 (.held (.bool true))).symm.trans (h (.held (.bool true)))
    rw [← e1] at e2
    cases e2
theorem RangeAt.next {r : Nat} {left : κ → Bool} (h : RangeAt F z w b r N L left) (ty : TypeId) :
    ((∀ k, hasL L k = true → left k = false) ∧ (Instr.next (.pointer (some ⟨r, 0, none⟩)) false ty).run P w = .ok (.tuple #[.bool false]) w) ∨
    ∃ k v w', F.ok k ∧ (k, v) ∈ L ∧ left k = true ∧ (Instr.next (.pointer (some ⟨r, 0, none⟩)) false ty).run P w = .ok (.tuple #[.bool true, F.val k, v]) w' ∧ RangeAt F z w' b r N L (fun x => left x && !decide (x = k)) ∧
      w'.rangeLeft b r < w.rangeLeft b r ∧ w.grownBy w' (some r) ∧ w'.heap.size = w.heap.size ∧ (Instr.entry (.pointer (some ⟨r, 0, none⟩))).run P w' = .ok (.tuple #[F.val k, v]) w' := by
  have hoks := h.oks
  have hmm := h.map
  obtain ⟨⟨D, lD, cnt, h1, h2, h3, h4, h5⟩, h6, h7⟩ := h
  rcases h1.next F.law ty with ⟨h0, hl, hrun⟩ | ⟨key, v, kl, y, w', cnt', hkey, hlk, hv, hat, hrun, hrg, hlt, hgr, hsz, hen⟩
  · exact .inl ⟨fun k hk => by rw [← h5 k (hmm.some_ok hk)]; exact hl _, hrun⟩
  · right
    have hhas := has_of_at (h1.owns.tidy F.law).isMap hat
    obtain ⟨k, hk, rfl⟩ := h4 kl hhas
    have hkv : key = F.val k := F.law.inj hkey (F.key k hk)
    subst hkv
    have hhl : hasL L k = true := by rw [← h2 k hk]; exact hhas
    have hy : y.1 = .held v := by
      unfold anyE at hv
      injection hv with hv
      rw [← hv]
    have hvg : getL z L k = v := by
      have e1 := h3 k hk
      rw [hat, hy] at e1
      injection e1 with e1
      exact e1.symm
    refine ⟨k, v, w', hk, by rw [← hvg]; exact getL_mem z hhl, by rw [← h5 k hk]; exact hlk, hrun, ⟨⟨D, _, _, hrg, h2, h3, h4, fun x hx => ?_⟩, h6, h7⟩, by rw [h1.left_eq, hrg.left_eq]; exact hlt, hgr, hsz, hen⟩
    rw [h5 x hx]
    congr 2
    by_cases hxk : x = k
    · subst hxk
      rw [WideAt.sameKey_self (F.isk x)]
      simp
    · have hne : F.lit x ≠ F.lit k := fun e => hxk (F.inj _ _ hx hk e)
      cases hs : (F.lit x).sameKey (F.lit k) with
      | true => exact absurd (WideAt.sameKey_eq hs) hne
      | false => simp [hxk]
end
end Go.Proofs.Ythceidacmeadkaa
