/- What every catalog in memory holds. No condition beyond those that each theorem states. -/
import Derived.Test.YtmkccblcmiflfaaGreatKC26
namespace Go.Proofs.YtmkccblcmiflfaaGreat
open Go.RowKit Go.Maps Go.WideMaps

theorem CatAt.facts {F : Nat → Prop} {w : World} {p N : Nat} {C : CV} (h : CatAt F w p N C) : CWf N C ∧ (C.entries.map Prod.fst).Nodup ∧ (C.begun.map Prod.fst).Nodup ∧ C.retired.Nodup ∧ C.entries.length ≤ N ∧ C.begun.length ≤ N ∧ C.retired.length ≤ N := by
  obtain ⟨sv, tv, SR, ER, be, bb, br, hr⟩ := h
  have e1 : (entVals ER).map Prod.fst = C.entries.map Prod.fst := by rw [← hr.entr, entVals, List.map_map, List.map_map]; rfl
  have e2 : (begunVals C.begun).map Prod.fst = C.begun.map Prod.fst := by unfold begunVals; rw [List.map_map]; rfl
  have e3 : (retVals C.retired).map Prod.fst = C.retired := by unfold retVals; rw [List.map_map]; exact List.map_id _
  refine ⟨hr.wf, by rw [← e1]; exact hr.ents.nd, by rw [← e2]; exact hr.begs.nd, by have h := hr.rets.nd; rwa [e3] at h, ?_, ?_, ?_⟩
  · have h1 := hr.ents.len
    have h2 := congrArg List.length e1
    simp only [List.length_map] at h2
    omega
  · have h1 := hr.begs.len
    simpa [begunVals] using h1
  · have h1 := hr.rets.lenI
    simpa [retVals] using h1
theorem OneRow.src {w : World} {g : Nat} {t : TypeId} {xs : List Value} {m : Nat} (h : RowAt w g t xs) : SrcAt w (some ⟨g, 0, none⟩) m xs := .inr ⟨g, 0, rfl, fun j u hu => by rw [Nat.zero_add]; exact h.cell hu⟩
theorem NotePOk.rd {w0 w w' : World} {r : NoteP} (h : NotePOk w0 w r) (hk : ∀ k, w0.heap.size ≤ k → k < w.heap.size → w'.heap[k]? = w.heap[k]?) : NoteRd w' r.v r.D r.v.data.length r.Q r.v.places.length := by
  refine ⟨?_, ⟨rfl, ?_⟩, ?_⟩
  · rcases h.data with ⟨h1, h2, _, h4⟩ | ⟨g, h1, h2, h3, _⟩
    · have e : r.v.data = [] := List.eq_nil_of_length_eq_zero h2
      rw [e]
      exact BytesIn.empty _ _
    · rw [h1]
      exact (h3.of_eq (hk g h2 h3.size)).bytesIn
  · rcases h.places with ⟨h1, h2, _, h4⟩ | ⟨g, h1, h2, h3, _⟩
    · exact .inl ⟨h2, h4⟩
    · rw [h1]
      exact OneRow.src (h3.of_eq (hk g h2 h3.size))
  · rcases h.places with ⟨_, h2, _, _⟩ | ⟨g, _, _, _, h4, h5⟩
    · rw [h2]
      exact Nat.zero_le _
    · exact Nat.le_trans h4 h5
theorem NSt.held {w0 w : World} {B : Option Addr} {c : Nat} {L : List NoteV} (h : NSt w0 w (.slice B L.length c) L) :
    ∃ NP : List NoteP, NP.map (·.v) = L ∧ ∀ w' : World, (∀ k, w0.heap.size ≤ k → k < w.heap.size → w'.heap[k]? = w.heap[k]?) → NotesRd w' B L.length NP := by
  obtain ⟨NP, h1, h2, h3, h4⟩ := h
  obtain ⟨B', c', e, hn, hc, hB⟩ := own_form h2
  cases e
  refine ⟨NP, h1, fun w' hk => ⟨by rw [← h1, List.length_map], ?_, fun r hr => (h3 r hr).rd hk, Nat.le_trans hn hc⟩⟩
  rcases hB with ⟨rfl, h0, _⟩ | ⟨g, rfl⟩
  · refine .inl ⟨h0, ?_⟩
    have e : NP = [] := by
      rw [← h1, List.length_map] at h0
      exact List.eq_nil_of_length_eq_zero h0
    rw [e]
    rfl
  · have hg := h2.lt g rfl
    exact OneRow.src ((RowAt.of_own h2).of_eq (hk g hg.1 hg.2))
end Go.Proofs.YtmkccblcmiflfaaGreat
