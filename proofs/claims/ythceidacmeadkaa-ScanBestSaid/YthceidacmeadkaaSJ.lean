/- scan.Best of a plain list of records. No condition beyond those that each theorem states. -/
import Derived.Test.YthceidacmeadkaaSH
namespace Go.Proofs.Ythceidacmeadkaa
open Go.RowKit Go.Maps Go.WideMaps Go.Sort
attribute [local go_sem] Oper.semAt_some

theorem foundVals_len (P : List FoundP) : (foundVals P).length = P.length * 12 := flat_length (k := 12) (fun _ => rfl) P
theorem foundVals_get {P : List FoundP} {i : Nat} {p : FoundP} (h : P[i]? = some p) {q : Nat} (hq : q < 12) : (foundVals P)[i * 12 + q]? = (foundCells p)[q]? := by
  rw [← Array.getElem?_toList]
  exact flat_get (vals := fun p : FoundP => (foundCells p).toList) (k := 12) (fun _ => rfl) h hq
def nthF (P : List FoundP) (i : Nat) : FoundP := (P[i]?).getD ⟨0, 0, ⟨0, 0, [], 0, 0, 0, 0, 0, [], []⟩, none, 0⟩
theorem range_nth (P : List FoundP) : (List.range P.length).map (nthF P) = P := by
  apply List.ext_getElem?
  intro i
  by_cases hi : i < P.length
  · simp [nthF, hi]
  · rw [List.getElem?_eq_none (by simpa using hi), List.getElem?_eq_none (by omega)]
theorem sel_nth (P : List FoundP) : sel (nthF P) P.length = P.filter okF := by unfold sel; rw [range_nth]
theorem founds_src {w : World} {A : Option Addr} {P : List FoundP} (h : SrcAt w A P.length (foundVals P)) : FoundsIn w A P.length (nthF P) := by
  rcases h with ⟨h0, _⟩ | ⟨b, off, hA, hc⟩
  · exact .inl h0
  · by_cases h0 : P.length = 0
    · exact .inl h0
    · have hcell : ∀ i, i < P.length → ∀ q u, (foundCells (nthF P i))[q]? = some u → w.cell? ⟨b, off + i * 12 + q, none⟩ = some u := fun i hi q u hu => by
        have hq : q < 12 := (Array.getElem?_eq_some_iff.1 hu).1
        rw [Nat.add_assoc]
        refine hc _ _ ?_
        rw [foundVals_get (p := nthF P i) (by simp [nthF, hi]) hq]
        exact hu
      refine .inr ⟨b, off, hA, ?_, hcell⟩
      exact World.block_lt_of_cell? _ _ (hcell 0 (by omega) 0 _ rfl)
/-- What scan.Best gives: entries in memory. -/
structure BestR (L : List FoundP) (w w' : World) (B : Option Addr) (es : List CopyE) : Prop where
  best : BestV L (es.map CopyE.b)
  row : SrcAt w' B es.length (entVals es)
  places : ∀ e ∈ es, w.heap.size ≤ e.g ∧ Blk w' e.g 34 (placeVals (placesOf L e.b)).toArray
  fresh : ∀ g o, B = some ⟨g, o, none⟩ → w.heap.size ≤ g
  base : Below w.heap.size w w'
theorem sBestL (A : Option Addr) (c : Nat) (P : List FoundP) (w : World) (hin : SrcAt w A P.length (foundVals P)) (hn : P.length ≤ 1000000) :
    Calls Try.prog 10 #[.slice A P.length c] w fun e w' => ∃ B es, e = .returned (.tuple #[.slice B es.length es.length, .int .i64 (mostV (P.filter okF))]) ∧ es.length ≤ P.length ∧ BestR (P.filter okF) w w' B es := by
  have h := sBest A P.length c (nthF P) w (founds_src hin) hn
  rw [sel_nth] at h
  refine h.mono ?_
  rintro e w' ⟨B, es, rfl, h1, h2, h3, h4, h5, h6⟩
  exact ⟨B, es, rfl, h4, h1, h2, h3, h5, h6⟩
theorem own_srcv {w : World} {base n : Nat} {t : TypeId} {size : Nat} {v : Value} {xs : List Value} (h : w.ownsRow base t size v n xs) (hn : n = 0 → xs = []) : ∃ B c, v = .slice B n c ∧ n ≤ c ∧ c ≤ maxLen ∧ (B = none → n = 0) ∧ SrcAt w B n xs ∧ (B = none ∨ ∃ g, B = some ⟨g, 0, none⟩ ∧ base ≤ g ∧ g < w.heap.size) := by
  obtain ⟨B, c, rfl, h1, h2, h3⟩ := own_form h
  refine ⟨B, c, rfl, h1, h2, ?_, ?_, ?_⟩
  · rcases h3 with ⟨_, h0, _⟩ | ⟨g, rfl⟩
    · exact fun _ => h0
    · exact fun e => by cases e
  · rcases h3 with ⟨_, h0, _⟩ | ⟨g, rfl⟩
    · exact .inl ⟨h0, hn h0⟩
    · exact .inr ⟨g, 0, rfl, fun j u hu => by rw [Nat.zero_add]; exact own_cell h hu⟩
  · rcases h3 with ⟨h0, _⟩ | ⟨g, rfl⟩
    · exact .inl h0
    · exact .inr ⟨g, rfl, h.lt g rfl⟩
end Go.Proofs.Ythceidacmeadkaa
