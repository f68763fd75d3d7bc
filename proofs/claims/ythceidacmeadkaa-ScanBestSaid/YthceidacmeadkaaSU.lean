/- Lists of records that come in, cut short; entries compared. No condition beyond those that each theorem states. -/
import Derived.Test.YthceidacmeadkaaSR
import Derived.Test.YthceidacmeadkaaST
namespace Go.Proofs.Ythceidacmeadkaa
open Go.RowKit Go.Maps Go.WideMaps Go.Sort
attribute [local go_sem] Oper.semAt_some

/-- Records that come in, as a plain list. -/
theorem founds_list {w : World} {A : Option Addr} {n : Nat} {G : Nat → FoundP} (h : FoundsIn w A n G) : ∃ P : List FoundP, P.length = n ∧ SrcAt w A n (foundVals P) := by
  refine ⟨(List.range n).map G, by simp, ?_⟩
  rcases h with h0 | ⟨b, off, hA, hb, hc⟩
  · subst h0
    exact .inl ⟨rfl, rfl⟩
  · refine .inr ⟨b, off, hA, fun j u hu => ?_⟩
    have hl : j < n * 12 := by
      have := (List.getElem?_eq_some_iff.1 hu).1
      rw [foundVals_len] at this
      simpa using this
    have hi : j / 12 < n := by omega
    have hg := foundVals_get (P := (List.range n).map G) (i := j / 12) (p := G (j / 12)) (by simp [hi]) (q := j % 12) (by omega)
    rw [show j / 12 * 12 + j % 12 = j by omega] at hg
    rw [hg] at hu
    have := hc (j / 12) hi (j % 12) u hu
    rw [show off + j / 12 * 12 + j % 12 = off + j by omega] at this
    exact this
theorem sFew (A : Option Addr) (n c : Nat) (hnc : n ≤ c) (hcm : c ≤ maxLen) (w : World) (hA : n = 0 ∨ ∃ b off, A = some ⟨b, off, none⟩) :
    Calls Try.prog 9 #[.slice A n c] w fun e w' => e = .returned (.slice A (min n 130) c) ∧ w = w' := by
  have h63 : c ≤ 9223372036854775807 := by simp only [maxLen] at hcm; omega
  clear hcm
  by_cases h : 130 < n
  · rcases hA with h0 | ⟨b, off, rfl⟩
    · omega
    · have f1 : decide (130 < n) = true := decide_eq_true h
      have f2 : decide ((130 : Int) < (n : Int)) = true := decide_eq_true (by omega)
      have f3 : (130 : Int) ≤ (c : Int) := by omega
      have HM := Lib.hid (show min n 130 = 130 by omega)
      go_enter Try.func9, Try.ntmps9
      go_wp2_with fail
      go_ret
      exact ⟨by rw [HM.out]; rfl, rfl⟩
  · have f1 : decide (130 < n) = false := decide_eq_false h
    have f2 : decide ((130 : Int) < (n : Int)) = false := decide_eq_false (by omega)
    have HM := Lib.hid (show min n 130 = n by omega)
    go_enter Try.func9, Try.ntmps9
    go_wp2_with fail
    go_ret
    exact ⟨by rw [HM.out]; rfl, rfl⟩
/-- A result's entries, as the document's comparison reads them. -/
def entP (L : List FoundP) (e : CopyE) : EntP := ⟨e.b.key, ⟨e.b.gen, e.b.size, e.b.sum, placesOf L e.b⟩, some ⟨e.g, 0, none⟩⟩
theorem ents_rd {L : List FoundP} {w w' : World} {B : Option Addr} {es : List CopyE} (h : BestR L w w' B es) (hl : ∀ e ∈ es, slotsB e.b ≤ maxLen) (hn : es.length ≤ maxLen) : EntsRd w' B es.length (es.map (entP L)) := by
  refine ⟨by simp, ?_, fun r hr => ?_, hn⟩
  · have e : entPVals (es.map (entP L)) = entVals es := by
      unfold entPVals entVals
      rw [List.flatMap_map]
      congr 1
      funext e
      simp only [entP, EntP.cells, entCells, places_len]
    rw [e]
    exact h.row
  · obtain ⟨e, he, rfl⟩ := List.mem_map.1 hr
    have hb := (h.places e he).2
    refine ⟨⟨rfl, .inr ⟨e.g, 0, rfl, fun j u hu => ?_⟩⟩, ?_⟩
    · rw [Nat.zero_add]
      exact (hb.cell j).trans (by rw [List.getElem?_toArray]; exact hu)
    · show (placesOf L e.b).length ≤ maxLen
      rw [places_len]
      exact hl e he
theorem ents_same {L L' : List FoundP} {es es' : List CopyE} (h : es.map CopyE.b = es'.map CopyE.b) (hp : ∀ b, placesOf L' b = placesOf L b) : (es.map (entP L)).map entK = (es'.map (entP L')).map entK := by
  have e1 : ∀ (M : List FoundP) (xs : List CopyE), (xs.map (entP M)).map entK = (xs.map CopyE.b).map fun b => (b.key, (⟨b.gen, b.size, b.sum, placesOf M b⟩ : EntV)) := fun M xs => by
    rw [List.map_map, List.map_map]
    rfl
  rw [e1, e1, h]
  refine List.map_congr_left fun b _ => ?_
  rw [hp]
end Go.Proofs.Ythceidacmeadkaa
