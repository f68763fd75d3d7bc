/- Lemmas on how arguments are read and what a law leaves. No condition beyond those that each theorem states. -/
import Derived.Test.YthceidacmeadkaaRows
import Derived.WalkKit
import Derived.ProofKit
import Derived.OpenShut
import Derived.SizedLaws
import Derived.Deep.Slices
import Derived.Deep.Fields
import Derived.ChangeSame
import Derived.Deep.Draws
import Derived.Lib.Hide
namespace Go.Proofs.Ythceidacmeadkaa
open Go.ChangeShapes Go.WideShapes Go.ChangeAt Go.RowKit Go.Deep

section
variable {H : Type} {enc : TypeId × Value → H} {P : Program}

theorem trodAll_below (hl : laidOutB P = true) {W W' : World} (hb : Below W.heap.size W W') : ∀ (ts : List TypeId) (vs : List Value) (ds : List (DataW H)) (ps : List MemPlace),
    (∀ t ∈ ts, P.readableRec t = true ∧ t < P.types.size) → (∀ x ∈ ps, x.block < W.heap.size) → DataW.TrodAll enc P W 0 (fun _ => true) true ts vs ds ps →
    DataW.TrodAll enc P W' 0 (fun b => decide (b < W.heap.size)) true ts vs ds ps := by
  intro ts
  induction ts with
  | nil =>
    intro vs ds ps _ _ h
    obtain ⟨rfl, rfl, rfl⟩ := trodAll_nil h
    exact trodAll_mk0
  | cons t ts ih =>
    intro vs ds ps ht hp h
    obtain ⟨v, vs', d, ds', p, q, rfl, rfl, rfl, h1, h2⟩ := trodAll_cons h
    have ht1 := ht t (by simp)
    exact trodAll_cons_mk (Below.trod hl ht1.1 ht1.2 h1 hb (fun x hx => hp x (by simp [hx]))) (ih vs' ds' q (fun t' h' => ht t' (by simp [h'])) (fun x hx => hp x (by simp [hx])) h2)

/-- A law's answer: true; all that was there is as it was. -/
theorem law_post {f : Func} {s : ChangeSpec} {W W' : World} {args : Array Value} {ds gs : List (DataW H)} {before : List MemPlace} {tb : TypeId} (hl : laidOutB P = true)
    (hpar0 : (f.params.toList.all fun t => P.readableRec t && decide (t < P.types.size)) = true) (hv : s.vars = []) (hrt : f.resultTypes = #[tb]) (hb : P.underlying tb = some .bool)
    (hW : DataW.Whole enc P f.params.toList s.vars false W args.toList ds gs before) (hs : s.fn H (ds ++ gs) = { results := [.lit (.bool true)], args := ds })
    (hbel : Below W.heap.size W W') : s.post enc P f false true false false W args (.bool true) W' := by
  have hpar : ∀ t ∈ f.params.toList, P.readableRec t = true ∧ t < P.types.size := fun t ht => by simpa using List.all_eq_true.1 hpar0 t ht
  have hlt : ∀ p ∈ before, p.block < W.heap.size := fun p hp => hW.lt p hp
  have hW' := hW
  obtain ⟨p, q, hA, hV, hpq, hfz, hnd⟩ := hW'
  have hV' := hV
  rw [hv] at hV'
  obtain ⟨rfl, rfl⟩ := trodVars_none hV'
  rw [List.append_nil] at hpq
  subst hpq
  refine ⟨ds, [], before, [], before, [], hW, ?_, ?_, ?_, World.keptBut_mono (fun p hp => ⟨hp, Or.inr (Or.inl hp)⟩) (hbel.frame (· ∈ before)), fun h => by cases h⟩
  · rw [hs, hrt]
    exact trodAll_cons_mk (shut_bool hb true) trodAll_mk0
  · rw [hs]
    exact trodAll_below hl hbel _ _ _ _ hpar hlt hA
  · rw [hs, hv]
    rfl

variable {w : World} {base : Nat} {spare : Nat → Bool} {held : Bool}

theorem addr_of_cell {w : World} {a : Addr} {u : Value} (h : w.cell? (a.add 0) = some u) : a = ⟨a.block, a.off, none⟩ := by
  obtain ⟨b, o, sp⟩ := a
  simp only [Addr.add, if_true] at h
  cases sp with
  | none => rfl
  | some x =>
    exfalso
    unfold World.cell? at h
    simp only at h
    split at h <;> simp at h

theorem add_plain (b o i : Nat) : (Addr.mk b o none).add i = ⟨b, o + i, none⟩ := by
  unfold Addr.add; split
  · rename_i h; subst h; rfl
  · rfl

/-- A slice of structs of one-cell fields: for each element and field a cell, and how it reads. -/
theorem open_rows {r : Reach} {b0 : Nat} {t e : TypeId} {fs : Array Field} {v : Value} {d : DataW H} {p : List MemPlace} (ht : P.underlying t = some (.slice e)) (he : P.underlying e = some (.struct fs))
    (hone : oneCellFields P fs = true) (hC : P.cellsOf e = fs.size) (hpos : 0 < fs.size) (hv : Value.okWide P w r b0 t v) (h : DataW.Trod enc P w base spare held t v d p) :
    ∃ (A : Option Addr) (n c : Nat), v = .slice A n c ∧ n ≤ c ∧ c ≤ maxLen ∧ (n = 0 ∨ ∃ b off, A = some ⟨b, off, none⟩ ∧ b < w.heap.size ∧
      ∀ (i j : Nat) (f : Field), i < n → fs[j]? = some f → ∃ (u : Value) (y : DataW H × List MemPlace) (m : Nat), w.cell? ⟨b, off + (i * fs.size + j), none⟩ = some u ∧ DataW.trod enc P w base spare held m f.type [u] = some y) := by
  obtain ⟨A, n, c, rfl⟩ := okWide_slice ht hv
  obtain ⟨fuel, hf⟩ := h
  rcases open_slice ht hf with ⟨hcs, _⟩ | ⟨a, len, cap, m, q, D, Pl, hcs, _, hl, hm, hmm, _, hi⟩
  · simp [Value.cells] at hcs
    obtain ⟨rfl, rfl, rfl⟩ := hcs
    exact ⟨_, _, _, rfl, Nat.le_refl _, by simp [maxLen], .inl rfl⟩
  · simp [Value.cells] at hcs
    obtain ⟨rfl, rfl, rfl⟩ := hcs
    refine ⟨_, _, _, rfl, hl, hm, ?_⟩
    rcases Nat.eq_zero_or_pos n with h0 | h0
    · exact .inl h0
    right
    have hnm : n ≤ m := by rw [hmm]; split <;> omega
    have key : ∀ (i j : Nat) (f : Field), i < n → fs[j]? = some f → ∃ (u : Value) (y : DataW H × List MemPlace) (m : Nat), w.cell? (a.add (i * fs.size + j)) = some u ∧ DataW.trod enc P w base spare held m f.type [u] = some y := by
      intro i j f hin hj
      obtain ⟨cs', hc, ht'⟩ := hi i (by omega)
      rw [hC] at hc
      obtain ⟨_, hcl, hat⟩ := World.cells?_some hc
      obtain ⟨xs, n', _, _, _, hxl, hg⟩ := DataW.trod_struct he ht'
      obtain ⟨ho, hk⟩ := hone_of hone j f hj
      have hjl : j < fs.size := (Array.getElem?_eq_some_iff.1 hj).1
      have hcell := hat j hjl
      have hjc : j < cs'.length := by omega
      rw [add_add, List.getElem?_eq_getElem hjc] at hcell
      have h1 := hg j f hj
      rw [ho, hk, List.drop_eq_getElem_cons hjc] at h1
      have hys : xs[j]? = some (xs[j]'(by omega)) := List.getElem?_eq_getElem (by omega)
      exact ⟨cs'[j], xs[j]'(by omega), n', hcell, by rw [← hys, ← h1]; rfl⟩
    obtain ⟨f0, hf0⟩ : ∃ f, fs[0]? = some f := ⟨fs[0], Array.getElem?_eq_getElem hpos⟩
    obtain ⟨u, y, m', hcell, _⟩ := key 0 0 f0 h0 hf0
    have hlt := World.block_lt_of_cell? _ _ hcell
    rw [Nat.zero_mul] at hcell
    have ea := addr_of_cell hcell
    obtain ⟨b, o, sp⟩ := a
    injection ea with _ _ ea
    subst ea
    rw [add_plain] at hlt
    refine ⟨b, o, rfl, hlt, fun i j f hin hj => ?_⟩
    obtain ⟨u, y, m', hcell, hr⟩ := key i j f hin hj
    rw [add_plain] at hcell
    exact ⟨u, y, m', hcell, hr⟩

/-- The number in a cell. -/
def cellInt (w : World) (b o : Nat) : Int := match w.cell? ⟨b, o, none⟩ with
  | some (.int _ x) => x
  | _ => 0

theorem i64_of_wf {n : Int} (h : (Lit.int .i64 n).wf = true) : -9223372036854775808 ≤ n ∧ n ≤ 9223372036854775807 := by
  simpa [Lit.wf, IntKind.min, IntKind.max, IntKind.signed, IntKind.bits] using h

theorem cell_i64 {fs : Array Field} {n b off k : Nat} (hk : fs.size = k) (h : ∀ (i j : Nat) (f : Field), i < n → fs[j]? = some f → ∃ (u : Value) (y : DataW H × List MemPlace) (m : Nat), w.cell? ⟨b, off + (i * fs.size + j), none⟩ = some u ∧ DataW.trod enc P w base spare held m f.type [u] = some y)
    {j : Nat} {f : Field} (hj : fs[j]? = some f) (hf : P.underlying f.type = some (.int .i64)) (i : Nat) (hi : i < n) :
    w.cell? ⟨b, off + i * k + j, none⟩ = some (.int .i64 (cellInt w b (off + i * k + j))) ∧ -9223372036854775808 ≤ cellInt w b (off + i * k + j) ∧ cellInt w b (off + i * k + j) ≤ 9223372036854775807 := by
  subst hk
  obtain ⟨u, y, m, hc, ht⟩ := h i j f hi hj
  obtain ⟨x, hx, _, hw⟩ := DataW.trod_int hf ht
  rw [← Nat.add_assoc] at hc
  injection hx with hx
  subst hx
  have e : cellInt w b (off + i * fs.size + j) = x := by unfold cellInt; rw [hc]
  rw [e]
  exact ⟨hc, i64_of_wf hw⟩
end
end Go.Proofs.Ythceidacmeadkaa
