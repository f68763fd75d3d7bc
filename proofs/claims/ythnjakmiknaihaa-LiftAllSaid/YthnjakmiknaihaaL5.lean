/- Plain lists: requests at unlike places are served upwards. No condition beyond those that each theorem states. -/
import Derived.Test.YthnjakmiknaihaaL3
import Derived.Test.YthnjakmiknaihaaK3
namespace Go.Proofs.Ythnjakmiknaihaa
open Go.RowKit

def askVals (x : Ask) : List Value := [.int .i64 x.job, .int .i64 x.op, .int .i64 x.cart, .int .i64 x.pos, .int .i64 x.slot, .int .i64 x.born]
theorem askVals_length (x : Ask) : (askVals x).length = 6 := rfl
def rowVals (xs : List Ask) : List Value := xs.flatMap askVals
def askAt (xs : List Ask) (i : Nat) : Ask := xs.getD i ⟨0, 0, 0, 0, 0, 0⟩
theorem askAt_get {xs : List Ask} {i : Nat} (h : i < xs.length) : xs[i]? = some (askAt xs i) := by
  simp [askAt, h]

theorem rowVals_length (xs : List Ask) : (rowVals xs).length = xs.length * 6 := flat_length askVals_length xs
theorem rowVals_get {xs : List Ask} {i q : Nat} (h : i < xs.length) (hq : q < 6) : (rowVals xs)[i * 6 + q]? = (askVals (askAt xs i))[q]? := flat_get askVals_length (askAt_get h) hq
theorem rowVals_one (xs : List Ask) : ∀ u ∈ rowVals xs, u.oneCell' = true := by
  intro u hu
  simp only [rowVals, List.mem_flatMap, askVals, List.mem_cons, List.not_mem_nil, or_false] at hu
  obtain ⟨x, _, h⟩ := hu
  rcases h with rfl | rfl | rfl | rfl | rfl | rfl <;> rfl

theorem own_asks {w : World} {base g n cap : Nat} {xs : List Ask} (h : w.ownsRow base 32 6 (.slice (some ⟨g, 0, none⟩) n cap) n (rowVals xs)) (hn : xs.length = n) :
    (∀ i, i < n → w.cell? ⟨g, i * 6, none⟩ = some (.int .i64 (askAt xs i).job)) ∧ (∀ i, i < n → w.cell? ⟨g, i * 6 + 1, none⟩ = some (.int .i64 (askAt xs i).op)) ∧
    (∀ i, i < n → w.cell? ⟨g, i * 6 + 2, none⟩ = some (.int .i64 (askAt xs i).cart)) ∧ (∀ i, i < n → w.cell? ⟨g, i * 6 + 3, none⟩ = some (.int .i64 (askAt xs i).pos)) ∧
    (∀ i, i < n → w.cell? ⟨g, i * 6 + 4, none⟩ = some (.int .i64 (askAt xs i).slot)) ∧ (∀ i, i < n → w.cell? ⟨g, i * 6 + 5, none⟩ = some (.int .i64 (askAt xs i).born)) := by
  subst hn
  exact ⟨fun i hi => own_cell h (rowVals_get hi (q := 0) (by omega)), fun i hi => own_cell h (rowVals_get hi (q := 1) (by omega)), fun i hi => own_cell h (rowVals_get hi (q := 2) (by omega)),
    fun i hi => own_cell h (rowVals_get hi (q := 3) (by omega)), fun i hi => own_cell h (rowVals_get hi (q := 4) (by omega)), fun i hi => own_cell h (rowVals_get hi (q := 5) (by omega))⟩
theorem own_asksAt {w : World} {base g n cap : Nat} {xs : List Ask} (h : w.ownsRow base 32 6 (.slice (some ⟨g, 0, none⟩) n cap) n (rowVals xs)) (hn : xs.length = n) : AsksAt w g 0 n (askAt xs) := by
  unfold AsksAt
  simp only [Nat.zero_add]
  exact own_asks h hn

theorem best_cases' {p x hp : Int} (h : beforeB p x hp = false) : (hp ≤ x ∧ hp ≤ p ∧ x ≤ p) ∨ (hp ≤ x ∧ p < hp) ∨ (x < hp ∧ p < hp ∧ x ≤ p) := by
  unfold beforeB at h
  by_cases h1 : hp ≤ p <;> by_cases h2 : hp ≤ x <;> simp [h1, h2] at h <;> omega

structure Fine (xs : List Ask) : Prop where
  one : ∀ i, i < xs.length → (askAt xs i).cart = 3 ∧ (askAt xs i).born = 5 ∧ 0 ≤ (askAt xs i).pos ∧ (askAt xs i).pos ≤ 255
  unlike : ∀ i j, i < xs.length → j < xs.length → i ≠ j → (askAt xs i).pos ≠ (askAt xs j).pos

theorem Fine.nil : Fine [] := ⟨fun i hi => absurd hi (by simp), fun i j hi => absurd hi (by simp)⟩

theorem askAt_append {xs : List Ask} {x : Ask} {i : Nat} : askAt (xs ++ [x]) i = if i < xs.length then askAt xs i else if i = xs.length then x else ⟨0, 0, 0, 0, 0, 0⟩ := by
  unfold askAt
  simp only [List.getD_eq_getElem?_getD]
  split
  · rename_i h; rw [List.getElem?_append_left h]
  · split
    · rename_i h1 h; subst h; simp
    · rename_i h1 h; rw [List.getElem?_eq_none (by simp; omega)]; rfl

theorem Fine.snoc {xs : List Ask} {x : Ask} (h : Fine xs) (h1 : x.cart = 3 ∧ x.born = 5 ∧ 0 ≤ x.pos ∧ x.pos ≤ 255) (h2 : ∀ i, i < xs.length → (askAt xs i).pos ≠ x.pos) : Fine (xs ++ [x]) := by
  refine ⟨fun i hi => ?_, fun i j hi hj hij => ?_⟩
  · rw [askAt_append]
    simp at hi
    split
    · exact h.one i (by assumption)
    · rw [if_pos (by omega)]; exact h1
  · simp only [List.length_append, List.length_cons, List.length_nil] at hi hj
    rw [askAt_append, askAt_append]
    by_cases hi' : i < xs.length <;> by_cases hj' : j < xs.length
    · rw [if_pos hi', if_pos hj']; exact h.unlike i j hi' hj' hij
    · rw [if_pos hi', if_neg hj', if_pos (by omega)]; exact h2 i hi'
    · rw [if_neg hi', if_pos (by omega), if_pos hj']; exact (h2 j hj').symm
    · omega

/-- One gone. -/
def less (xs : List Ask) (j : Nat) : List Ask := xs.take j ++ xs.drop (j + 1)
theorem less_length {xs : List Ask} {j : Nat} (h : j < xs.length) : (less xs j).length = xs.length - 1 := by
  simp [less]; omega
theorem less_at {xs : List Ask} {j i : Nat} (h : j < xs.length) : askAt (less xs j) i = askAt xs (if i < j then i else i + 1) := by
  unfold askAt less
  simp only [List.getD_eq_getElem?_getD]
  split
  · rename_i hi; rw [List.getElem?_append_left (by simp; omega), List.getElem?_take, if_pos hi]
  · rename_i hi
    rw [List.getElem?_append_right (by simp; omega), List.getElem?_drop]
    simp only [List.length_take]
    congr 2
    omega

structure Served (from_ : Int) (xs : List Ask) (hp last : Int) (low : Bool) : Prop where
  fine : Fine xs
  bound : -1 ≤ last ∧ last ≤ 255 ∧ 0 ≤ hp ∧ hp ≤ 256
  mode : (low = false ∧ ((last = -1 ∧ hp = from_) ∨ (from_ ≤ last ∧ hp = last + 1)) ∧ ∀ i, i < xs.length → from_ ≤ (askAt xs i).pos → last < (askAt xs i).pos) ∨
    (low = true ∧ hp = last + 1 ∧ ∀ i, i < xs.length → (askAt xs i).pos < from_ ∧ last < (askAt xs i).pos)

theorem Fine.less {xs : List Ask} {j : Nat} (h : Fine xs) (hj : j < xs.length) : Fine (less xs j) := by
  refine ⟨fun i hi => ?_, fun i k hi hk hik => ?_⟩
  · rw [less_length hj] at hi
    rw [less_at hj]
    exact h.one _ (by split <;> omega)
  · rw [less_length hj] at hi hk
    rw [less_at hj, less_at hj]
    exact h.unlike _ _ (by split <;> omega) (by split <;> omega) (by split <;> split <;> omega)

/-- The one that is met first: what the law's tests say, and what holds behind it. -/
theorem served_step {from_ hp last : Int} {low : Bool} {xs : List Ask} (G : Served from_ xs hp last low) {j : Nat} (hj : j < xs.length)
    (hb : ∀ i, i < xs.length → beforeB (askAt xs i).pos (askAt xs j).pos hp = false) :
    (from_ ≤ (askAt xs j).pos → low = false ∧ last < (askAt xs j).pos ∧ Served from_ (less xs j) ((askAt xs j).pos + 1) (askAt xs j).pos false) ∧
    ((askAt xs j).pos < from_ → (low = true → last < (askAt xs j).pos) ∧ Served from_ (less xs j) ((askAt xs j).pos + 1) (askAt xs j).pos true) := by
  have hf := G.fine.less hj
  have hone := G.fine.one j hj
  have hbd : -1 ≤ (askAt xs j).pos ∧ (askAt xs j).pos ≤ 255 ∧ 0 ≤ (askAt xs j).pos + 1 ∧ (askAt xs j).pos + 1 ≤ 256 := by omega
  have cs : ∀ i, i < xs.length → i ≠ j → _ := fun i hi hij => And.intro (G.fine.unlike i j hi hj hij) (best_cases' (hb i hi))
  have hidx : ∀ i, i < (less xs j).length → (if i < j then i else i + 1) < xs.length ∧ (if i < j then i else i + 1) ≠ j := fun i hi => by
    rw [less_length hj] at hi
    split <;> omega
  rcases G.mode with ⟨hl, hm, hall⟩ | ⟨hl, hm, hall⟩
  · refine ⟨fun hp1 => ⟨hl, hall j hj hp1, hf, hbd, .inl ⟨rfl, .inr ⟨hp1, rfl⟩, fun i hi hq => ?_⟩⟩, fun hp1 => ⟨(fun h => by rw [hl] at h; cases h), hf, hbd, .inr ⟨rfl, rfl, fun i hi => ?_⟩⟩⟩
    · rw [less_at hj] at hq ⊢
      obtain ⟨h1, h2⟩ := hidx i hi
      obtain ⟨c1, c2⟩ := cs _ h1 h2
      have := hall _ h1 hq
      have := hall j hj hp1
      omega
    · rw [less_at hj]
      obtain ⟨h1, h2⟩ := hidx i hi
      obtain ⟨c1, c2⟩ := cs _ h1 h2
      have := hall _ h1
      omega
  · have hj1 := hall j hj
    refine ⟨fun hp1 => by omega, fun hp1 => ⟨fun _ => hj1.2, hf, hbd, .inr ⟨rfl, rfl, fun i hi => ?_⟩⟩⟩
    rw [less_at hj]
    obtain ⟨h1, h2⟩ := hidx i hi
    obtain ⟨c1, c2⟩ := cs _ h1 h2
    have := hall _ h1
    omega
end Go.Proofs.Ythnjakmiknaihaa
