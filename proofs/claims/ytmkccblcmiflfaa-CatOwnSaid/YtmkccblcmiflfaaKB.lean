/- What bytes.Clone, slices.Clone and slices.Clip do to bytes. No condition beyond those that each theorem states. -/
import Derived.Test.YtmkccblcmiflfaaG1
import Derived.WalkSpells
import Derived.WalkLawsBesides
import Derived.BigQuiet
import Derived.Deep.QuietTactic
import Derived.Outline
namespace Go.Proofs.Ytmkccblcmiflfaa
open Go.RowKit

theorem byte_info : (Try.prog.info? 5).map (fun i => (i.zero, i.size, i.bytes)) = some (some (.int .u8 0), 1, 1) := by kernel_rfl
theorem own_made (W : World) {base g : Nat} (t : TypeId) (size : Nat) (hg : g = W.heap.size) (h : base ≤ g) : (W.alloc (.cells #[] t)).ownsRow base t size (.slice (some ⟨g, 0, none⟩) 0 0) 0 [] := by
  subst hg
  exact ⟨by simp, .inr ⟨_, 0, #[], rfl, h, heap_alloc_new _ _, Nat.le_refl _, by simp [maxLen], by simp, by simp⟩⟩
/-- The form of a slice of bytes: nil, or at some address. -/
def Form (A : Option Addr) (n c : Nat) : Prop := n ≤ c ∧ c ≤ maxLen ∧ (A = none → n = 0 ∧ c = 0)
/-- Bytes of one's own: nil, or a row from a block's beginning on. -/
def Bys (w : World) (base : Nat) (B : Option Addr) (n c : Nat) (l : List UInt8) : Prop := w.ownsRow base 5 1 (.slice B n c) n (byteVals l)
section
variable {w w' : World} {base : Nat} {B : Option Addr} {n c : Nat} {l : List UInt8}
theorem Bys.form (h : Bys w base B n c l) : Form B n c := by
  rcases h.2 with ⟨e, _⟩ | ⟨g, cap, cur, e, _, _, h1, h2, _⟩
  · cases e
    exact ⟨Nat.le_refl _, by simp [maxLen], fun _ => ⟨rfl, rfl⟩⟩
  · cases e
    exact ⟨h1, h2, fun e => by cases e⟩
theorem Bys.len (h : Bys w base B n c l) : l.length = n := by
  have := h.1
  rw [byteVals_length] at this
  omega
theorem Bys.bytes (h : Bys w base B n c l) : BytesIn w B n l := by
  have hl := h.len
  refine ⟨hl, ?_⟩
  rcases h.2 with ⟨e, h0⟩ | ⟨g, cap, cur, e, _⟩
  · cases e
    exact .inl h0
  · cases e
    right
    refine ⟨g, 0, rfl, own_lt h, fun i u hu => ?_⟩
    rw [Nat.zero_add]
    exact own_cell h (by rw [byteVals_get, hu]; rfl)
theorem Bys.of_eq (h : Bys w base B n c l) (hz : ∀ g, B = some ⟨g, 0, none⟩ → w'.heap[g]? = w.heap[g]?) : Bys w' base B n c l :=
  own_of_eq h fun q hq => by
    rcases h.2 with ⟨e, _⟩ | ⟨g, cap, cur, e, _⟩
    · cases e; cases hq
    · cases e
      have e : g = q := Option.some.inj hq
      subst e
      exact hz g rfl
theorem Bys.mono (h : Bys w base B n c l) {b2 : Nat} (hb : b2 ≤ base) : Bys w b2 B n c l := by
  obtain ⟨h1, h2⟩ := h
  refine ⟨h1, h2.imp id fun ⟨g, cap, cur, e, h3, h4⟩ => ⟨g, cap, cur, e, by omega, h4⟩⟩
theorem Bys.ge (h : Bys w base B n c l) {g : Nat} (hB : B = some ⟨g, 0, none⟩) : base ≤ g ∧ g < w.heap.size := by
  subst hB
  exact ⟨(h.lt g rfl).1, (h.lt g rfl).2⟩
theorem Bys.shape (h : Bys w base B n c l) : (B = none ∧ n = 0 ∧ c = 0) ∨ ∃ g, B = some ⟨g, 0, none⟩ := by
  rcases h.2 with ⟨e, _⟩ | ⟨g, cap, cur, e, _⟩
  · cases e; exact .inl ⟨rfl, rfl, rfl⟩
  · cases e; exact .inr ⟨g, rfl⟩
theorem bys_nil (w : World) (base : Nat) : Bys w base none 0 0 [] := World.ownsRow_nil w base _ _
end

section
set_option maxHeartbeats 1000000
theorem bclone (A : Option Addr) (n c : Nat) (l : List UInt8) (w : World) (hf : Form A n c) (hm : n ≤ 1000000) (h : BytesIn w A n l) :
    Calls Try.prog 21 #[.slice A n c] w fun e w' => ∃ B k, e = .returned (.slice B n k) ∧ Bys w' w.heap.size B n k l ∧ Below w.heap.size w w' := by
  have h1 : ∀ w, _ := fun w => Lib.run_eql_slice_nil (P := Try.prog) w 23 5 A n c 0 0 Try.underlying23
  have H := Lib.hid h
  obtain ⟨i0, hi0, hz0, hz1, hz2⟩ := info_parts byte_info
  clear h
  cases A with
  | none =>
    obtain ⟨rfl, rfl⟩ := hf.2.2 rfl
    go_enter Try.func21, Try.ntmps21
    go_wp2
    go_ret
    have e : l = [] := List.eq_nil_of_length_eq_zero H.out.1
    subst e
    exact ⟨none, 0, rfl, bys_nil _ _, Below.refl _ _⟩
  | some a =>
    go_enter Try.func21, Try.ntmps21
    go_wp2_with (
      (at_builtin
       refine wpList_append_src _ rfl (.tmp 5) (.tmp 6) 23 rfl w.heap.size 5 i0 _ 1 1 Try.underlying23 hi0 hz0 hz1 hz2 rfl (by omega) _ 0 [] rfl (by exact own_made _ _ 1 rfl (Nat.le_refl _)) (some a) n c (byteVals l) rfl (by rw [byteVals_length, H.out.1, Nat.mul_one]) (fun e => by cases e) (by exact (H.out.below ((Below.refl _ _).alloc (Nat.le_refl _) _)).src) (byteVals_one l) (by simp only [maxLen]; omega) (by omega) (by simp) ?_
       intro v w1 hown hgr hat))
    go_ret
    have hb1 : Below w.heap.size w w1 := ((Below.refl _ _).alloc (Nat.le_refl _) _).grown hgr (by simp) (fun q hq => by have h : w.heap.size = q := Option.some.inj hq; omega)
    rcases hown.2 with ⟨rfl, h0⟩ | ⟨g, cap, cur, rfl, h2⟩
    · have hn0 : n = 0 := by omega
      subst hn0
      exact ⟨none, 0, rfl, by have h := hown; rw [List.nil_append] at h; exact h, hb1⟩
    · refine ⟨some ⟨g, 0, none⟩, cap, by simp, ?_, hb1⟩
      have h := hown
      rw [List.nil_append] at h
      unfold Bys
      rwa [Nat.zero_add] at h
theorem bclip (base : Nat) (B : Option Addr) (n c : Nat) (l : List UInt8) (w : World) (h : Bys w base B n c l) :
    Calls Try.prog 33 #[.slice B n c] w fun e w' => e = .returned (.slice B n n) ∧ w = w' := by
  have hn := h.form.1
  rcases h.shape with ⟨rfl, rfl, rfl⟩ | ⟨g, rfl⟩
  · clear h
    go_enter Try.func33, Try.ntmps33
    go_wp2
    go_ret
    exact ⟨rfl, rfl⟩
  · clear h
    go_enter Try.func33, Try.ntmps33
    go_wp2
    go_ret
    exact ⟨rfl, rfl⟩
theorem Bys.clip {w : World} {base : Nat} {B : Option Addr} {n c : Nat} {l : List UInt8} (h : Bys w base B n c l) : BytesIn w B n l ∧ Form B n n := ⟨h.bytes, Nat.le_refl _, Nat.le_trans h.form.1 h.form.2.1, fun e => ⟨(h.form.2.2 e).1, (h.form.2.2 e).1⟩⟩
end
end Go.Proofs.Ytmkccblcmiflfaa
