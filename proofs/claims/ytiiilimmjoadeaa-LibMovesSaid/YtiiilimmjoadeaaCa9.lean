/- The fixed fact awake of the laws on cartridges returns true. No condition beyond those that each theorem states. -/
import Derived.Test.YtiiilimmjoadeaaCa8
namespace Go.Proofs.Ytiiilimmjoadeaa
open Go.RowKit

theorem lit_bytes (W : World) (l : List UInt8) (t : TypeId) : BytesIn (W.alloc (.cells (byteVals l).toArray t)) (some ⟨W.heap.size, 0, none⟩) l.length l :=
  ⟨rfl, .inr ⟨_, 0, rfl, by simp, fun i u hu => by
    rw [Nat.zero_add, cell_of_row _ _ i _ _ (0, 0) (heap_alloc_new W _)]
    simp [byteVals, hu]⟩⟩
theorem Priv.alloc {w0 w : World} {p : Nat} {M : Recs} {most : Int} {lost : Bool} (h : Priv w0 w p M most lost) (o : Obj) : Priv w0 (w.alloc o) p M most lost := h.below ((Below.refl _ _).alloc (Nat.le_refl _) _)
theorem Priv.drewN {w0 w : World} {p : Nat} {M : Recs} {most : Int} {lost : Bool} (h : Priv w0 w p M most lost) (n : Nat) : Priv w0 (w.drewN n) p M most lost := h.below (below_drewN (Below.refl _ _) n)
/-- The bytes of a slice that was handed out. -/
theorem OutB.bytesIn {w w' : World} {v : Value} {l : List UInt8} (h : OutB w w' v l) : ∃ A c, v = .slice A l.length c ∧ BytesIn w' A l.length l ∧ (A = none ∨ ∃ b off, A = some ⟨b, off, none⟩) := by
  rcases h with ⟨rfl, rfl⟩ | ⟨g, cap, rfl, _, _, _, hr⟩
  · exact ⟨none, 0, rfl, BytesIn.empty _ _, .inl rfl⟩
  · exact ⟨_, cap, rfl, hr.bytesIn, .inr ⟨g, 0, rfl⟩⟩

theorem OutB.keeps {w w1 w2 : World} {v : Value} {l : List UInt8} (h : OutB w w1 v l) (hk : Keeps w1 w2) : OutB w w2 v l := by
  rcases h with h | ⟨g, cap, hv, h1, h2, h3, hr⟩
  · exact .inl h
  · exact .inr ⟨g, cap, hv, h1, h2, h3, hk.row hr (by decide) (by decide)⟩
theorem OutB.string {w w' : World} {v : Value} {l : List UInt8} (h : OutB w w' v l) : (convert 22 9 v).run Try.prog w' = .ok (.string ⟨l.toArray⟩) w' := by
  obtain ⟨A, c, rfl, hb, hA⟩ := h.bytesIn
  exact run_string_of Try.underlying22 Try.underlying5 Try.underlying9 hb hA

set_option maxRecDepth 100000 in
set_option maxHeartbeats 4000000 in
theorem awake07 (w : World) : Calls Try.prog 15 #[] w fun e w' => e = .returned (.bool true) ∧ Below w.heap.size w w' := by
  go_enter Try.func15, Try.ntmps15
  go_wp2_with fail
  refine (pNew 2 _).mono ?_
  rintro e w1 ⟨p, rfl, h1, _⟩
  have P1 := Lib.hid (show Priv w w1 p [] 2 false from h1)
  clear h1
  go_wp2_with fail
  refine (pAppend w p [] 2 false _ 2 2 [97, 98] _ (P1.out.alloc _) (lit_bytes _ [97, 98] _)).mono ?_
  rintro e w2 ⟨rfl, h1, _⟩
  have P2 := Lib.hid (show Priv w w2 p [([97, 98], false)] 2 false from h1)
  clear h1
  simp only [show (appendM [] 2 false [97, 98]).1 = 0 from rfl, show (appendM [] 2 false [97, 98]).2.1 = 0 from rfl]
  go_wp2_with fail
  refine (pAppend w p _ 2 false none 0 0 [] _ P2.out (BytesIn.empty _ _)).mono ?_
  rintro e w3 ⟨rfl, h1, _⟩
  have P3 := Lib.hid (show Priv w w3 p [([97, 98], false)] 2 false from h1)
  clear h1
  simp only [show (appendM [([97, 98], false)] 2 false []).1 = 0 from rfl, show (appendM [([97, 98], false)] 2 false []).2.1 = 1 from rfl]
  go_wp2_with fail
  refine (pTear w p _ 2 false 1 _ P3.out).mono ?_
  rintro e w4 ⟨rfl, h1, _⟩
  have P4 := Lib.hid (show Priv w w4 p [([97], false)] 2 false from h1)
  clear h1
  simp only [show (tearM [([97, 98], false)] false 1).1 = true from rfl]
  go_wp2_with fail
  refine (pRead w p _ 2 false 0 _ P4.out).mono ?_
  rintro e w5 ⟨v, rfl, ho, h1, _⟩
  have P5 := Lib.hid h1
  have OB := Lib.hid (show OutB w4 w5 v [97] from ho)
  clear h1 ho
  simp only [show (readM [([97], false)] false 0).2 = 0 from rfl]
  go_wp2_with fail
  refine (pAppend w p _ 2 false _ 1 1 [99] _ (P5.out.alloc _) (lit_bytes _ [99] _)).mono ?_
  rintro e w6 ⟨rfl, h1, k6⟩
  have P6 := Lib.hid (show Priv w w6 p [([97], false), ([99], false)] 2 false from h1)
  have K6 := Lib.hid k6
  clear h1 k6
  simp only [show (appendM [([97], false)] 2 false [99]).1 = 1 from rfl, show (appendM [([97], false)] 2 false [99]).2.1 = 0 from rfl]
  go_wp2_with fail
  refine (pAppend w p _ 2 false _ 1 1 [100] _ (P6.out.alloc _) (lit_bytes _ [100] _)).mono ?_
  rintro e w7 ⟨rfl, h1, k7⟩
  have P7 := Lib.hid (show Priv w w7 p [([97], false), ([99], false)] 2 false from h1)
  have K7 := Lib.hid k7
  clear h1 k7
  simp only [show (appendM [([97], false), ([99], false)] 2 false [100]).1 = 0 from rfl, show (appendM [([97], false), ([99], false)] 2 false [100]).2.1 = 7 from rfl]
  have ob7 := ((OB.out.keeps (Keeps.of_below ((Below.refl _ _).alloc (Nat.le_refl _) _))).keeps K6.out).keeps ((Keeps.of_below ((Below.refl _ _).alloc (Nat.le_refl _) _)).trans K7.out)
  have hcv := ob7.string
  clear ob7
  go_wp2_with fail
  refine (pRot w p _ 2 false 1 _ P7.out).mono ?_
  rintro e w8 ⟨rfl, h1, k8⟩
  have P8 := Lib.hid (show Priv w w8 p [([97], false), ([99], true)] 2 false from h1)
  clear h1 k8 hcv
  simp only [show (rotM [([97], false), ([99], false)] false 1).1 = true from rfl]
  go_wp2_with fail
  refine (pLose w p _ 2 false _ P8.out).mono ?_
  rintro e w9 ⟨rfl, h1, k9⟩
  have P9 := Lib.hid h1
  clear h1 k9
  simp only [Bool.not_false]
  go_wp2_with fail
  refine (pLen w p _ 2 true _ P9.out).mono ?_
  rintro e w10 ⟨rfl, rfl⟩
  go_wp2_with fail
  go_ret
  exact ⟨rfl, P9.out.base⟩
end Go.Proofs.Ytiiilimmjoadeaa
