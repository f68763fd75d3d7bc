/- The copies that records come to: plainly, and the state of the loop over them. No condition beyond those that each theorem states. -/
import Derived.Test.YthceidacmeadkaaS5
namespace Go.Proofs.Ythceidacmeadkaa
open Go.RowKit Go.Maps Go.WideMaps
attribute [local go_sem] Oper.semAt_some

def blobKey (_ : Unit) : KeyForm Try.prog 59 BlobV where
  lit b := .string (keyBytes (blobLits b))
  val b := .agg (blobCells b)
  ok := OkB
  inj := fun a b ha hb h => blob_inj a b ha hb h
  isk := fun _ => trivial
  key := fun b h => blob_key b h
  law := Keyed.of_law blob_law
def isShard (b : BlobV) (s : Nat) (p : FoundP) : Bool := decide (p.r.kind = 2) && (decide (ofR p.r = b) && decide (p.r.group * 10 + p.r.index = (s : Int)))
def firstAt (xs : List FoundP) (b : BlobV) (s : Nat) : Int × Int := match xs.find? (isShard b s) with
  | some p => (p.cart, p.pos)
  | none => (0, 1024)
def slotsB (b : BlobV) : Nat := (b.groups * 10).toNat
def placesOf (xs : List FoundP) (b : BlobV) : List (Int × Int) := (List.range (slotsB b)).map (firstAt xs b)
def placeVals (l : List (Int × Int)) : List Value := l.flatMap fun p => [.int .i64 p.1, .int .i64 p.2]
theorem placeVals_len (l : List (Int × Int)) : (placeVals l).length = l.length * 2 := flat_length (k := 2) (fun _ => rfl) l
theorem placeVals_get {l : List (Int × Int)} {i : Nat} {p : Int × Int} (h : l[i]? = some p) : (placeVals l)[i * 2]? = some (.int .i64 p.1) ∧ (placeVals l)[i * 2 + 1]? = some (.int .i64 p.2) :=
  ⟨flat_get (vals := fun p : Int × Int => [Value.int .i64 p.1, .int .i64 p.2]) (k := 2) (fun _ => rfl) h (q := 0) (by omega), flat_get (vals := fun p : Int × Int => [Value.int .i64 p.1, .int .i64 p.2]) (k := 2) (fun _ => rfl) h (q := 1) (by omega)⟩
theorem first_snoc (xs : List FoundP) (p : FoundP) (b : BlobV) (s : Nat) : firstAt (xs ++ [p]) b s = if (xs.find? (isShard b s)).isSome then firstAt xs b s else if isShard b s p then (p.cart, p.pos) else (0, 1024) := by
  unfold firstAt
  rw [List.find?_append]
  cases h : xs.find? (isShard b s) with
  | some q => simp
  | none =>
    simp only [Option.none_or, Option.isSome_none, Bool.false_eq_true, if_false, List.find?_singleton]
    split <;> rename_i h2 <;> split at h2 <;> simp_all
/-- A copy's entry in the map: its key, the block of its places. -/
structure CopyE where
  b : BlobV
  g : Nat
def entV (e : CopyE) : BlobV × Value := (e.b, .slice (some ⟨e.g, 0, none⟩) (slotsB e.b) (slotsB e.b))
structure CopiesAt (w : World) (A : Option Addr) (n c : Nat) (G : Nat → FoundP) (pre kx : List FoundP) (CL : List CopyE) (W : World) : Prop where
  map : ∃ N, MapAt (blobKey ()) (.slice none 0 0) W w.heap.size N (CL.map entV) ∧ N ≤ kx.length
  cm : Blk W (w.heap.size + 1) 56 #[.map (some w.heap.size)]
  box : Blk W (w.heap.size + 2) 22 #[.slice A n c]
  list : FoundsIn W A n G
  rows : ∀ e ∈ CL, w.heap.size + 5 ≤ e.g ∧ Blk W e.g 34 (placeVals (placesOf pre e.b)).toArray
  gs : (CL.map CopyE.g).Nodup
  keys : ∀ e ∈ CL, ∃ p ∈ kx, p.r.kind = 2 ∧ ofR p.r = e.b
  alls : ∀ p ∈ pre, p.r.kind = 2 → ∃ e ∈ CL, e.b = ofR p.r
  base : Below w.heap.size w W
theorem CopiesAt.below {w W W' : World} {A : Option Addr} {n c : Nat} {G : Nat → FoundP} {pre kx : List FoundP} {CL : List CopyE} (h : CopiesAt w A n c G pre kx CL W) (hb : Below W.heap.size W W') : CopiesAt w A n c G pre kx CL W' := by
  obtain ⟨⟨N, hm, hN⟩, h2, h3, h4, h5, h6, h7, h8, h9⟩ := h
  exact ⟨⟨N, hm.of_eq (hb.block _ hm.lt), hN⟩, h2.below hb h2.size, h3.below hb h3.size, h4.below hb, fun e he => ⟨(h5 e he).1, (h5 e he).2.below hb (h5 e he).2.size⟩, h6, h7, h8, h9.trans (hb.mono h9.size)⟩
theorem good_shard {r : RecV} (h : goodV r = true) (hk : r.kind = 2) : shardV r = true ∧ keyV r.key = true ∧ withinV r.gen 1099511627776 = true := by
  unfold goodV at h
  rw [if_neg (by omega), if_neg (by omega), if_pos hk] at h
  simp only [Bool.and_eq_true] at h
  exact ⟨h.2.2.2, h.2.1, h.2.2.1⟩
/-- What is so of a shard that counts. -/
theorem shard_facts {p : FoundP} (h : okF p = true) (hk : p.r.kind = 2) : OkB (ofR p.r) ∧ (slotsB (ofR p.r) = 10 ∨ slotsB (ofR p.r) = 20 ∨ slotsB (ofR p.r) = 30 ∨ slotsB (ofR p.r) = 40) ∧ 0 ≤ p.r.group ∧ 0 ≤ p.r.index ∧ p.r.group * 10 + p.r.index < slotsB (ofR p.r) ∧ p.pos < 1024 ∧ p.r.index ≤ 9 ∧ p.r.group < 10 ∧ (slotsB (ofR p.r) : Int) = p.r.groups * 10 := by
  obtain ⟨h1, h2, h3⟩ := good_shard (ok_good h) hk
  simp only [shardV, withinV, keyV, Bool.and_eq_true, decide_eq_true_eq] at h1 h2 h3
  obtain ⟨⟨s1, s2⟩, g1, ⟨g2, g3⟩, ⟨i1, i2⟩, hs, hd⟩ := h1
  have hp : p.pos < 1024 := by
    unfold okF at h
    simp only [Bool.and_eq_true, decide_eq_true_eq] at h
    exact h.2.2.2.1
  obtain ⟨q, hq⟩ : ∃ q, (p.r.size + 127) / 128 = q := ⟨_, rfl⟩
  unfold groupsV at g1
  rw [hq] at g1
  have hq1 : q ≤ 4 := by omega
  have hq0 : 0 ≤ q := by omega
  have hg4 : p.r.groups = 1 ∨ p.r.groups = 2 ∨ p.r.groups = 3 ∨ p.r.groups = 4 := by omega
  have hsl : (slotsB (ofR p.r) : Int) = p.r.groups * 10 := by unfold slotsB ofR; simp only; omega
  refine ⟨⟨by show p.r.key.length ≤ maxLen; simp only [maxLen]; omega, by show p.r.sum.length ≤ maxLen; simp only [maxLen]; omega, ?_, ?_, ?_⟩, by omega, g2, i1, by omega, hp, i2, by omega, hsl⟩
  · simp [Lit.wf, ofR, IntKind.min, IntKind.max, IntKind.signed, IntKind.bits]; omega
  · simp [Lit.wf, ofR, IntKind.min, IntKind.max, IntKind.signed, IntKind.bits]; omega
  · simp [Lit.wf, ofR, IntKind.min, IntKind.max, IntKind.signed, IntKind.bits]; omega
theorem places_len (xs : List FoundP) (b : BlobV) : (placesOf xs b).length = slotsB b := by simp [placesOf]
theorem places_get (xs : List FoundP) (b : BlobV) {s : Nat} (h : s < slotsB b) : (placesOf xs b)[s]? = some (firstAt xs b s) := by simp [placesOf, h]
/-- Nothing was found yet: nowhere. -/
theorem places_new {xs : List FoundP} {b : BlobV} (h : ∀ p ∈ xs, p.r.kind = 2 → ofR p.r ≠ b) : placesOf xs b = List.replicate (slotsB b) (0, 1024) := by
  apply List.ext_getElem?
  intro s
  by_cases hs : s < slotsB b
  · rw [places_get xs b hs, List.getElem?_replicate, if_pos hs]
    unfold firstAt
    have h2 : xs.find? (isShard b s) = none := by
      rw [List.find?_eq_none]
      intro p hp hc
      simp only [isShard, Bool.and_eq_true, decide_eq_true_eq] at hc
      exact h p hp hc.1 hc.2.1
    rw [h2]
  · rw [List.getElem?_eq_none (by rw [places_len]; omega), List.getElem?_replicate, if_neg hs]
theorem nones_vals (n : Nat) : nones n = placeVals (List.replicate n (0, 1024)) := by
  induction n with
  | zero => rfl
  | succ n ih =>
    rw [List.replicate_succ, show n + 1 = 1 + n by omega, nones_add, ih]
    rfl
/-- Another copy's places, or a record that is no shard: as they were. -/
theorem places_other {xs : List FoundP} {p : FoundP} {b : BlobV} (h : p.r.kind = 2 → ofR p.r ≠ b) : placesOf (xs ++ [p]) b = placesOf xs b := by
  unfold placesOf
  apply List.map_congr_left
  intro s _
  rw [first_snoc]
  have h1 : isShard b s p = false := by
    cases hc : isShard b s p with
    | false => rfl
    | true =>
      simp only [isShard, Bool.and_eq_true, decide_eq_true_eq] at hc
      exact absurd hc.2.1 (h hc.1)
  rw [h1]
  unfold firstAt
  cases xs.find? (isShard b s) <;> simp
/-- Was a shard found there already? -/
theorem first_found {xs : List FoundP} {b : BlobV} {s : Nat} (hok : ∀ p ∈ xs, okF p = true) : (xs.find? (isShard b s)).isSome = true ↔ firstAt xs b s ≠ (0, 1024) := by
  unfold firstAt
  cases h : xs.find? (isShard b s) with
  | none => simp
  | some p =>
    have h1 := List.mem_of_find?_eq_some h
    have h2 := hok p h1
    unfold okF at h2
    simp only [Bool.and_eq_true, decide_eq_true_eq] at h2
    simp only [Option.isSome_some, ne_eq, Prod.mk.injEq, true_iff, not_and]
    intro _ hc
    have := h2.2.2.2.1
    omega
theorem places_set {xs : List FoundP} {p : FoundP} {s : Nat} (hk : p.r.kind = 2) (hs : p.r.group * 10 + p.r.index = (s : Int)) (hn : xs.find? (isShard (ofR p.r) s) = none) :
    placesOf (xs ++ [p]) (ofR p.r) = (placesOf xs (ofR p.r)).set s (p.cart, p.pos) := by
  apply List.ext_getElem?
  intro t
  by_cases ht : t < slotsB (ofR p.r)
  · rw [places_get _ _ ht, List.getElem?_set, places_get _ _ ht, first_snoc]
    by_cases hst : s = t
    · subst hst
      have h1 : isShard (ofR p.r) s p = true := by simp [isShard, hk, hs]
      simp [hn, h1, places_len, ht]
    · have h1 : isShard (ofR p.r) t p = false := by
        cases hc : isShard (ofR p.r) t p with
        | false => rfl
        | true =>
          simp only [isShard, Bool.and_eq_true, decide_eq_true_eq] at hc
          omega
      rw [h1, if_neg hst]
      unfold firstAt
      cases xs.find? (isShard (ofR p.r) t) <;> simp
  · rw [List.getElem?_eq_none (by rw [places_len]; omega), List.getElem?_set, List.getElem?_eq_none (by rw [places_len]; omega)]
    split <;> simp_all [places_len]
theorem places_keep {xs : List FoundP} {p : FoundP} {s : Nat} (hs : p.r.group * 10 + p.r.index = (s : Int)) (hn : (xs.find? (isShard (ofR p.r) s)).isSome = true) :
    placesOf (xs ++ [p]) (ofR p.r) = placesOf xs (ofR p.r) := by
  unfold placesOf
  apply List.map_congr_left
  intro t _
  rw [first_snoc]
  by_cases hst : s = t
  · subst hst
    rw [hn, if_pos rfl]
  · have h1 : isShard (ofR p.r) t p = false := by
      cases hc : isShard (ofR p.r) t p with
      | false => rfl
      | true =>
        simp only [isShard, Bool.and_eq_true, decide_eq_true_eq] at hc
        omega
    rw [h1]
    unfold firstAt
    cases xs.find? (isShard (ofR p.r) t) <;> simp
theorem inj_of_nodup {α β : Type} {f : α → β} : ∀ {l : List α}, (l.map f).Nodup → ∀ {a b : α}, a ∈ l → b ∈ l → f a = f b → a = b
  | x :: l, h, a, b, ha, hb, e => by
    rw [List.map_cons, List.nodup_cons] at h
    rcases List.mem_cons.1 ha with h1 | h1 <;> rcases List.mem_cons.1 hb with h2 | h2
    · rw [h1, h2]
    · subst h1
      exact absurd (e ▸ List.mem_map_of_mem h2) h.1
    · subst h2
      exact absurd (e ▸ List.mem_map_of_mem h1) h.1
    · exact inj_of_nodup h.2 h1 h2 e
theorem delL_no {κ β : Type} [DecidableEq κ] {L : List (κ × β)} {k : κ} (h : hasL L k = false) : delL L k = L := by
  unfold delL
  rw [List.filter_eq_self]
  intro q hq
  unfold hasL at h
  rw [List.any_eq_false] at h
  have := h q hq
  simpa using this
theorem putL_no {κ β : Type} [DecidableEq κ] {L : List (κ × β)} {k : κ} {v : β} (h : hasL L k = false) : putL L k v = L ++ [(k, v)] := by unfold putL; rw [delL_no h]
theorem has_ent (CL : List CopyE) (b : BlobV) : hasL (CL.map entV) b = true ↔ ∃ e ∈ CL, e.b = b := by
  rw [hasL_mem, List.map_map, List.mem_map]
  rfl
theorem CopiesAt.key_inj {w W : World} {A : Option Addr} {n c : Nat} {G : Nat → FoundP} {pre kx : List FoundP} {CL : List CopyE} (h : CopiesAt w A n c G pre kx CL W) {e e' : CopyE} (he : e ∈ CL) (he' : e' ∈ CL) (hb : e.b = e'.b) : e = e' := by
  obtain ⟨N, hm, _⟩ := h.map
  have hnd := hm.nd
  rw [List.map_map] at hnd
  exact inj_of_nodup hnd he he' hb
/-- A record that is no shard. -/
theorem CopiesAt.skip {w W : World} {A : Option Addr} {n c : Nat} {G : Nat → FoundP} {pre : List FoundP} {CL : List CopyE} {x : FoundP} (h : CopiesAt w A n c G pre pre CL W) (hx : x.r.kind ≠ 2) : CopiesAt w A n c G (pre ++ [x]) (pre ++ [x]) CL W := by
  obtain ⟨⟨N, hm, hN⟩, h2, h3, h4, h5, h6, h7, h8, h9⟩ := h
  refine ⟨⟨N, hm, by simp; omega⟩, h2, h3, h4, fun e he => ⟨(h5 e he).1, ?_⟩, h6, fun e he => ?_, fun p hp hk => ?_, h9⟩
  · rw [places_other (fun hk => absurd hk hx)]
    exact (h5 e he).2
  · obtain ⟨p, hp, h⟩ := h7 e he
    exact ⟨p, List.mem_append_left _ hp, h⟩
  · rcases List.mem_append.1 hp with hp | hp
    · exact h8 p hp hk
    · rw [List.mem_singleton] at hp
      subst hp
      exact absurd hk hx
/-- Its copy has an entry: nothing is new. -/
theorem CopiesAt.have_ {w W : World} {A : Option Addr} {n c : Nat} {G : Nat → FoundP} {pre : List FoundP} {CL : List CopyE} {x : FoundP} (h : CopiesAt w A n c G pre pre CL W) : CopiesAt w A n c G pre (pre ++ [x]) CL W := by
  obtain ⟨⟨N, hm, hN⟩, h2, h3, h4, h5, h6, h7, h8, h9⟩ := h
  refine ⟨⟨N, hm, by simp; omega⟩, h2, h3, h4, h5, h6, fun e he => ?_, h8, h9⟩
  obtain ⟨p, hp, h⟩ := h7 e he
  exact ⟨p, List.mem_append_left _ hp, h⟩
/-- A copy that is new. -/
theorem CopiesAt.add {w W W' : World} {A : Option Addr} {n c N g' : Nat} {G : Nat → FoundP} {pre : List FoundP} {CL : List CopyE} {x : FoundP} {b : BlobV} (h : CopiesAt w A n c G pre pre CL W) (IN : FoundsIn w A n G) (hnew : hasL (CL.map entV) b = false) (hk : x.r.kind = 2) (hb : ofR x.r = b)
    (hm : MapAt (blobKey ()) (.slice none 0 0) W' w.heap.size (N + 1) (putL (CL.map entV) b (.slice (some ⟨g', 0, none⟩) (slotsB b) (slotsB b)))) (hN : N ≤ pre.length) (hc : ∀ k, k < W.heap.size → k ≠ w.heap.size → W'.heap[k]? = W.heap[k]?) (hg : W.heap.size ≤ g') (hgw : w.heap.size + 5 ≤ W.heap.size)
    (hblk : Blk W' g' 34 (nones (slotsB b)).toArray) (hbel : Below w.heap.size w W') : CopiesAt w A n c G pre (pre ++ [x]) (CL ++ [⟨b, g'⟩]) W' := by
  have hno : ∀ e ∈ CL, e.b ≠ b := fun e he hc => by
    have := (has_ent CL b).2 ⟨e, he, hc⟩
    rw [hnew] at this
    cases this
  obtain ⟨_, h2, h3, h4, h5, h6, h7, h8, h9⟩ := h
  refine ⟨⟨N + 1, ?_, by simp; omega⟩, h2.of_eq (hc _ h2.size (by omega)), h3.of_eq (hc _ h3.size (by omega)), IN.below hbel, fun e he => ?_, ?_, fun e he => ?_, fun p hp hk => ?_, hbel⟩
  · rw [List.map_append]
    rw [putL_no hnew] at hm
    exact hm
  · rcases List.mem_append.1 he with he | he
    · exact ⟨(h5 e he).1, (h5 e he).2.of_eq (hc _ (h5 e he).2.size (by have := (h5 e he).1; omega))⟩
    · rw [List.mem_singleton] at he
      subst he
      refine ⟨by show w.heap.size + 5 ≤ g'; omega, ?_⟩
      rw [show placesOf pre b = _ from places_new (fun p hp hk hc => by
        obtain ⟨e, he, h1⟩ := h8 p hp hk
        exact hno e he (h1.trans hc)), ← nones_vals]
      exact hblk
  · rw [List.map_append, List.nodup_append]
    refine ⟨h6, by simp, fun a ha d hd e => ?_⟩
    obtain ⟨q, hq, rfl⟩ := List.mem_map.1 ha
    have hd2 : d = g' := by simpa using hd
    have := (h5 q hq).2.size
    omega
  · rcases List.mem_append.1 he with he | he
    · obtain ⟨p, hp, h⟩ := h7 e he
      exact ⟨p, List.mem_append_left _ hp, h⟩
    · rw [List.mem_singleton] at he
      subst he
      exact ⟨x, by simp, hk, hb⟩
  · obtain ⟨e, he, h⟩ := h8 p hp hk
    exact ⟨e, List.mem_append_left _ he, h⟩
/-- The record's own copy. -/
theorem CopiesAt.last {w W W' : World} {A : Option Addr} {n c : Nat} {G : Nat → FoundP} {pre : List FoundP} {CL : List CopyE} {x : FoundP} {e : CopyE} (h : CopiesAt w A n c G pre (pre ++ [x]) CL W) (IN : FoundsIn w A n G) (he : e ∈ CL) (hb : ofR x.r = e.b)
    (hc : ∀ k, k ≠ e.g → k < W.heap.size → W'.heap[k]? = W.heap[k]?) (hblk : Blk W' e.g 34 (placeVals (placesOf (pre ++ [x]) e.b)).toArray) (hbel : Below w.heap.size w W') : CopiesAt w A n c G (pre ++ [x]) (pre ++ [x]) CL W' := by
  have hinj := fun {e' : CopyE} (he' : e' ∈ CL) => h.key_inj he' he
  obtain ⟨⟨N, hm, hN⟩, h2, h3, h4, h5, h6, h7, h8, h9⟩ := h
  have hge := (h5 e he).1
  refine ⟨⟨N, hm.of_eq (hc _ (by omega) hm.lt), hN⟩, h2.of_eq (hc _ (by omega) h2.size), h3.of_eq (hc _ (by omega) h3.size), IN.below hbel, fun e' he' => ?_, h6, h7, fun p hp hk => ?_, hbel⟩
  · refine ⟨(h5 e' he').1, ?_⟩
    by_cases hee : e' = e
    · subst hee
      exact hblk
    · rw [places_other (fun _ hx => hee (hinj he' (hx.symm.trans hb)))]
      exact (h5 e' he').2.of_eq (hc _ (fun hg => hee (inj_of_nodup h6 he' he hg)) (h5 e' he').2.size)
  · rcases List.mem_append.1 hp with hp | hp
    · exact h8 p hp hk
    · rw [List.mem_singleton] at hp
      subst hp
      exact ⟨e, he, hb.symm⟩
end Go.Proofs.Ythceidacmeadkaa
