/- A model in memory: a map of slices of bytes. No condition beyond those that each theorem states. -/
import Derived.Test.YtgkgieemdjbhpaaMA1
import Derived.Maps.Own
import Derived.Maps.OwnOps
import Derived.Maps.OwnSet
import Derived.StringKeys
import Derived.Sort.KeysCollected
namespace Go.Proofs.Ytgkgieemdjbhpaa
open Go.RowKit Go.Maps Go.WideMaps

abbrev HB := Option Addr × Nat × Nat
/-- How an element reads: the slice itself. -/
def slE : Value → Option (DataW HB × List MemPlace)
  | .slice A n c => some (.held (A, n, c), [])
  | _ => none
theorem slE_inv {v : Value} {A : Option Addr} {n c : Nat} {ps : List MemPlace} (h : slE v = some (.held (A, n, c), ps)) : v = .slice A n c := by
  cases v <;> simp [slE] at h
  obtain ⟨⟨rfl, rfl, rfl⟩, _⟩ := h
  rfl
theorem slaw : Keyed Try.prog 9 := string_keyed Try.underlying9
theorem zeroB (w : World) : (zeroValue 29).run Try.prog w = .ok (.slice none 0 0) w := by kernel_rfl
theorem keyS {l : List UInt8} (h : l.length ≤ maxLen) : keyOf Try.prog 9 (encStr l) = some (.string l) := by
  have := keyOf_string_mk (P := Try.prog) (k := 9) Try.underlying9 (s := ⟨l.toArray⟩) (by simpa [ByteArray.size] using h)
  simpa [encStr] using this

section
variable {P : Program} (w : World) {ops : Array Oper} {rest : List Oper} {o : Oper} {a : Act} {Q : Exit → Act → World → Prop}
theorem wpList_lookup_sl (hg : o.guard = none) (m x : Operand) (t : TypeId) (hop : o.op = Op.lookup t m x true)
    (k e : TypeId) (K : Keyed P k) (ht : P.underlying t = some (.map k e)) (hz : (zeroValue e).run P w = .ok (.slice none 0 0) w) (b n : Nat) (D : DataW HB)
    (hm : a.eval m = .map (some b)) (hown : w.ownsMap P k slE b n D) (key : Value) (kl : Lit) (hx : a.eval x = key) (hkey : keyOf P k key = some kl)
    (A0 : Option Addr) (n0 c0 : Nat) (hat : D.atKey kl (.held (none, 0, 0)) = .held (A0, n0, c0)) (ok : Bool) (hok : Maps.has D kl = ok)
    (hK : wpList P ops Q rest (a.put o.dst (.tuple #[.slice A0 n0 c0, .bool ok])) w) :
    wpList P ops Q (o :: rest) a w :=
  wpList_lookup_own_ok w hg m x t hop k e K ht slE hz (.held (none, 0, 0)) [] rfl b n D hm hown key kl hx hkey (fun v ps hv => by
    rw [hat] at hv
    obtain rfl := slE_inv hv
    rw [hok]
    exact hK)
end

abbrev MV := List (List UInt8 × List UInt8)
def hasM (S : MV) (k : List UInt8) : Bool := S.any fun q => q.1 == k
def getM (S : MV) (k : List UInt8) : List UInt8 := ((S.find? fun q => q.1 == k).map Prod.snd).getD []
def delM (S : MV) (k : List UInt8) : MV := S.filter fun q => !(q.1 == k)
theorem hasM_snoc (S : MV) (k d x : List UInt8) : hasM (S ++ [(k, d)]) x = (hasM S x || k == x) := by simp [hasM]
theorem getM_same {S : MV} {k d : List UInt8} (h : hasM S k = false) : getM (S ++ [(k, d)]) k = d := by
  unfold getM
  have h2 : (S.find? fun q => q.1 == k) = none := by
    rw [List.find?_eq_none]
    intro p hp hpc
    unfold hasM at h
    rw [List.any_eq_false] at h
    exact h p hp hpc
  rw [List.find?_append, h2]
  simp
theorem getM_other {S : MV} {k d x : List UInt8} (h : x ≠ k) : getM (S ++ [(k, d)]) x = getM S x := by
  unfold getM
  rw [List.find?_append]
  cases S.find? fun q => q.1 == x with
  | some y => rfl
  | none => simp [List.find?, show (k == x) = false by simpa using fun e => h e.symm]
theorem hasM_mem {S : MV} {k : List UInt8} : hasM S k = true ↔ k ∈ S.map Prod.fst := by simp [hasM]
theorem hasM_del (S : MV) (k x : List UInt8) : hasM (delM S k) x = (hasM S x && !(x == k)) := by
  unfold hasM delM
  rw [List.any_filter]
  induction S with
  | nil => rfl
  | cons q S ih =>
    rw [List.any_cons, List.any_cons, ih]
    by_cases h1 : q.1 = x
    · subst h1
      cases h2 : (q.1 == k) <;> simp
    · have h3 : (q.1 == x) = false := by simpa using h1
      rw [h3]
      cases (q.1 == k) <;> simp
theorem getM_del {S : MV} {k x : List UInt8} (h : x ≠ k) : getM (delM S k) x = getM S x := by
  unfold getM delM
  induction S with
  | nil => rfl
  | cons q S ih =>
    by_cases h1 : q.1 = k
    · have h2 : (q.1 == x) = false := by rw [h1]; simpa using fun e => h e.symm
      rw [List.filter_cons_of_neg (by simp [h1]), ih, List.find?_cons_of_neg (by rw [h2]; simp)]
    · rw [List.filter_cons_of_pos (by simpa using h1)]
      cases h2 : (q.1 == x) with
      | true => rw [List.find?_cons_of_pos (by exact h2), List.find?_cons_of_pos (by exact h2)]
      | false => rw [List.find?_cons_of_neg (by rw [h2]; simp), List.find?_cons_of_neg (by rw [h2]; simp), ih]
theorem getM_mem {S : MV} {k : List UInt8} (h : hasM S k = true) : ∃ q ∈ S, q.1 = k ∧ q.2 = getM S k := by
  unfold getM
  cases hx : S.find? (fun q => q.1 == k) with
  | none =>
    rw [List.find?_eq_none] at hx
    unfold hasM at h
    rw [List.any_eq_true] at h
    obtain ⟨y, hy, hye⟩ := h
    exact absurd hye (hx y hy)
  | some y =>
    have h1 := List.mem_of_find?_eq_some hx
    have h2 := List.find?_some hx
    exact ⟨y, h1, by simpa using h2, rfl⟩
theorem key_ne {x c : List UInt8} (h : x ≠ c) : (Lit.string x) ≠ .string c := fun e => h (by injection e)

/-- What the map's datum says: just these blobs, and where their bytes lie. -/
structure RepM (lo : Nat) (w : World) (D : DataW HB) (S : MV) : Prop where
  has : ∀ k, Maps.has D (.string k) = hasM S k
  val : ∀ k, hasM S k = true → ∃ A n c, D.atKey (.string k) (.held (none, 0, 0)) = .held (A, n, c) ∧ Bys w lo A n c (getM S k)
  no : ∀ k, hasM S k = false → D.atKey (.string k) (.held (none, 0, 0)) = .held (none, 0, 0)
  nd : (S.map Prod.fst).Nodup
  wf : ∀ q ∈ S, 1 ≤ q.1.length ∧ q.1.length ≤ 16 ∧ q.2.length ≤ 512
/-- A model in memory, in blocks from lo on. -/
structure MAt (lo : Nat) (w : World) (p b : Nat) (S : MV) : Prop where
  blk : Blk w p 57 #[.map (some b)]
  ge : lo ≤ p ∧ lo ≤ b
  map : ∃ D, w.ownsMap Try.prog 9 slE b S.length D ∧ RepM lo w D S

section
variable {lo p b : Nat} {w w' : World} {S : MV} {D : DataW HB}
theorem RepM.nil (lo : Nat) (w : World) : RepM lo w (.map []) [] := ⟨fun k => rfl, fun k h => by simp [hasM] at h, fun k h => rfl, by simp, by simp⟩
theorem RepM.keep (h : RepM lo w D S) (hk : ∀ k, lo ≤ k → k < w.heap.size → (∃ cs, Blk w k 5 cs) → w'.heap[k]? = w.heap[k]?) : RepM lo w' D S :=
  ⟨h.has, fun k hx => by
    obtain ⟨A, n, c, h1, h2⟩ := h.val k hx
    exact ⟨A, n, c, h1, h2.of_eq fun g hg => by
      have hge := h2.ge hg
      subst hg
      exact hk g hge.1 hge.2 (own_blk h2 rfl)⟩, h.no, h.nd, h.wf⟩
theorem RepM.put (h : RepM lo w D S) (ht : Tidy D) {k d : List UInt8} {A : Option Addr} {n c : Nat} (hn : hasM S k = false) (hb : Bys w lo A n c d) (hk : 1 ≤ k.length ∧ k.length ≤ 16 ∧ d.length ≤ 512) : RepM lo w (D.put (.string k) (.held (A, n, c))) (S ++ [(k, d)]) := by
  refine ⟨fun x => ?_, fun x hx => ?_, fun x hx => ?_, ?_, fun q hq => ?_⟩
  · by_cases hxc : x = k
    · subst hxc
      rw [has_put_same (k := .string x) ht.isMap trivial, hasM_snoc]
      simp
    · rw [has_put_other (key_ne hxc), h.has x, hasM_snoc, show (k == x) = false by simpa using fun e => hxc e.symm, Bool.or_false]
  · by_cases hxc : x = k
    · subst hxc
      exact ⟨A, n, c, by rw [atKey_put_same (k := .string x) ht.isMap trivial], by rw [getM_same hn]; exact hb⟩
    · rw [hasM_snoc, show (k == x) = false by simpa using fun e => hxc e.symm, Bool.or_false] at hx
      obtain ⟨A', n', c', h1, h2⟩ := h.val x hx
      exact ⟨A', n', c', by rw [atKey_put_other (key_ne hxc)]; exact h1, by rw [getM_other hxc]; exact h2⟩
  · have hxc : x ≠ k := fun e => by
      subst e
      rw [hasM_snoc] at hx
      simp at hx
    rw [hasM_snoc, show (k == x) = false by simpa using fun e => hxc e.symm, Bool.or_false] at hx
    rw [atKey_put_other (key_ne hxc)]
    exact h.no x hx
  · rw [List.map_append, List.nodup_append]
    refine ⟨h.nd, by simp, fun a ha b hb => ?_⟩
    have hb : b = k := by simpa using hb
    subst hb
    intro e
    subst e
    rw [hasM_mem.2 ha] at hn
    cases hn
  · rcases List.mem_append.1 hq with hq | hq
    · exact h.wf q hq
    · have e : q = (k, d) := by simpa using hq
      subst e
      exact hk
theorem RepM.del (h : RepM lo w D S) (k : List UInt8) : RepM lo w (D.del (.string k)) (delM S k) := by
  refine ⟨fun x => ?_, fun x hx => ?_, fun x hx => ?_, ?_, fun q hq => h.wf q (List.mem_filter.1 hq).1⟩
  · rw [hasM_del]
    by_cases hxc : x = k
    · subst hxc
      rw [has_del_same]
      simp
    · rw [has_del_other (key_ne hxc), h.has x, show (x == k) = false by simpa using hxc]
      simp
  · rw [hasM_del] at hx
    have hxc : x ≠ k := fun e => by subst e; simp at hx
    rw [show (x == k) = false by simpa using hxc] at hx
    obtain ⟨A', n', c', h1, h2⟩ := h.val x (by simpa using hx)
    exact ⟨A', n', c', by rw [atKey_del_other (key_ne hxc)]; exact h1, by rw [getM_del hxc]; exact h2⟩
  · by_cases hxc : x = k
    · subst hxc
      rw [atKey_del_same]
    · rw [hasM_del, show (x == k) = false by simpa using hxc] at hx
      rw [atKey_del_other (key_ne hxc)]
      exact h.no x (by simpa using hx)
  · exact h.nd.sublist ((List.filter_sublist).map _)
theorem MAt.lt (h : MAt lo w p b S) : p < w.heap.size ∧ b < w.heap.size := by
  obtain ⟨h1, _, D, h2, _⟩ := h
  exact ⟨h1.size, h2.lt⟩
theorem MAt.keep (h : MAt lo w p b S) (hk : ∀ k, lo ≤ k → k < w.heap.size → w'.heap[k]? = w.heap[k]?) : MAt lo w' p b S := by
  obtain ⟨h1, h2, D, h3, h4⟩ := h
  refine ⟨h1.of_eq (hk p h2.1 h1.size), h2, D, ?_, h4.keep fun k a1 a2 _ => hk k a1 a2⟩
  obtain ⟨es, clock, hb, F, hs, hD⟩ := h3
  exact ⟨es, clock, (hk b h2.2 (Array.getElem?_eq_some_iff.1 hb).1).trans hb, F, hs, hD⟩
theorem MAt.below (h : MAt lo w p b S) (hb : Below w.heap.size w w') : MAt lo w' p b S := h.keep fun k _ hk => hb.block k hk
theorem owns_tight {n : Nat} (h : w.ownsMap Try.prog 9 slE b n D) : w.ownsMap Try.prog 9 slE b (Maps.size D) D := by
  obtain ⟨es, clock, hb, F, hs, rfl⟩ := h
  exact ⟨es, clock, hb, F, by simp [Maps.size, length_sorted], rfl⟩
theorem MAt.perm (h : MAt lo w p b S) : ∃ D, w.ownsMap Try.prog 9 slE b S.length D ∧ RepM lo w D S ∧ (S.map Prod.fst).Perm (strKeys D) := by
  obtain ⟨_, _, D, h3, h4⟩ := h
  refine ⟨D, h3, h4, ?_⟩
  obtain ⟨es, hD, hpw, _⟩ := h3.entries slaw
  obtain ⟨es', hD', hko⟩ := h3.keysOf
  obtain rfl : es = es' := by rw [hD] at hD'; simpa using hD'
  subst hD
  exact perm_strKeys hpw (fun q hq => by obtain ⟨v, hv⟩ := hko q hq; obtain ⟨x, _, hx, _⟩ := Maps.keyOf_str Try.underlying9 hv; exact ⟨x, hx⟩) h4.nd (fun x => by rw [h4.has x, hasM_mem])
end
end Go.Proofs.Ytgkgieemdjbhpaa
