/- The law CartOwn returns true on values. No condition beyond those that each theorem states. -/
import Derived.Test.YtiiilimmjoadeaaCb2
namespace Go.Proofs.Ytiiilimmjoadeaa
open Go.RowKit

set_option maxRecDepth 100000 in
set_option maxHeartbeats 4000000 in
theorem cartOwn_none (w : World) (t : Int) : Calls Try.prog 3 #[.slice none 0 0, .int .u8 t] w fun e w' => e = .returned (.bool true) ∧ Below w.heap.size w w' := by
  go_enter Try.func3, Try.ntmps3
  have hcv := fun W => bytes_string (w := W) (A := some ⟨w.heap.size, 0, none⟩) (n := 0) (c := 0) (l := []) (BytesIn.empty _ _) (.inr ⟨_, _, rfl⟩)
  go_wp2_with fail
  refine (pNew 3 _).mono ?_
  rintro e w1 ⟨p, rfl, h1, _⟩
  have P1 := Lib.hid h1
  clear h1
  go_wp2_with fail
  refine (pAppend _ p [] (max 0 (min 3 1024)) false _ 0 0 [] _ P1.out (BytesIn.empty _ _)).mono ?_
  rintro e w2 ⟨rfl, h1, _⟩
  have P2 := Lib.hid h1
  clear h1
  simp only [show (appendM [] (max 0 (min 3 1024)) false []).1 = 0 from rfl, show (appendM [] (max 0 (min 3 1024)) false []).2.1 = 1 from rfl]
  go_wp2_with fail
  refine (awake07 _).mono ?_
  rintro e w4 ⟨rfl, hb4⟩
  go_wp2_with fail
  go_ret
  have hb := P2.out.base
  refine ⟨rfl, (((Below.refl _ _).alloc (Nat.le_refl _) _).trans (hb.mono (by simp))).trans (hb4.mono ?_)⟩
  have := hb.size
  simp at this
  omega
set_option maxRecDepth 100000 in
set_option maxHeartbeats 4000000 in
theorem cartOwn_empty (a : Addr) (c : Nat) (w : World) (t : Int) : Calls Try.prog 3 #[.slice (some a) 0 c, .int .u8 t] w fun e w' => e = .returned (.bool true) ∧ Below w.heap.size w w' := by
  go_enter Try.func3, Try.ntmps3
  have hcv := fun W => bytes_string (w := W) (A := some ⟨w.heap.size, 0, none⟩) (n := 0) (c := 0) (l := []) (BytesIn.empty _ _) (.inr ⟨_, _, rfl⟩)
  go_wp2_with fail
  refine (pNew 3 _).mono ?_
  rintro e w1 ⟨p, rfl, h1, _⟩
  have P1 := Lib.hid h1
  clear h1
  go_wp2_with fail
  refine (pAppend _ p [] (max 0 (min 3 1024)) false _ 0 0 [] _ P1.out (BytesIn.empty _ _)).mono ?_
  rintro e w2 ⟨rfl, h1, _⟩
  have P2 := Lib.hid h1
  clear h1
  simp only [show (appendM [] (max 0 (min 3 1024)) false []).1 = 0 from rfl, show (appendM [] (max 0 (min 3 1024)) false []).2.1 = 1 from rfl]
  go_wp2_with fail
  refine (awake07 _).mono ?_
  rintro e w4 ⟨rfl, hb4⟩
  go_wp2_with fail
  go_ret
  have hb := P2.out.base
  refine ⟨rfl, (((Below.refl _ _).alloc (Nat.le_refl _) _).trans (hb.mono (by simp))).trans (hb4.mono ?_)⟩
  have := hb.size
  simp at this
  omega

/-- A world without memory: a base below which nothing lies. -/
def bare (w : World) : World := { w with heap := #[] }
theorem Foot.bare {B : Nat} {w : World} {p : Nat} {M : Recs} {most : Int} {lost : Bool} (h : Foot B w p M most lost) : Priv (bare w) w p M most lost := by
  obtain ⟨lv, R, hM, hc, hp, ho, hr⟩ := h
  exact ⟨lv, R, hM, hc, Nat.zero_le _, fun _ _ => Nat.zero_le _, ⟨rfl, rfl, rfl, Nat.zero_le _, fun k hk => absurd hk (by simp [Go.Proofs.Ytiiilimmjoadeaa.bare])⟩, fun _ _ => Nat.zero_le _⟩

/-- A row of q bytes in block g, whatever they are. -/
def SomeBytes (w : World) (g q : Nat) : Prop := ∃ l : List UInt8, l.length = q ∧ RowAt w g 5 (byteVals l)
theorem SomeBytes.cell {w : World} {g q i : Nat} (h : SomeBytes w g q) (hi : i < q) : ∃ z : UInt8, w.cell? ⟨g, i, none⟩ = some (.int .u8 (z.toNat : Int)) := by
  obtain ⟨l, hl, hr⟩ := h
  have hil : i < l.length := by omega
  exact ⟨l[i], hr.cell (by rw [byteVals_get, List.getElem?_eq_getElem hil]; rfl)⟩
theorem SomeBytes.free {w : World} {g q : Nat} (h : SomeBytes w g q) (i : Nat) : w.frozen? ⟨g, i, none⟩ = false := by
  obtain ⟨l, hl, hr⟩ := h
  exact hr.free i
theorem SomeBytes.size {w : World} {g q : Nat} (h : SomeBytes w g q) : g < w.heap.size := by
  obtain ⟨l, hl, hr⟩ := h
  exact hr.size
theorem SomeBytes.store {w : World} {g q i : Nat} (h : SomeBytes w g q) {z : Int} (h0 : 0 ≤ z) (h1 : z ≤ 255) : SomeBytes (w.setCell ⟨g, i, none⟩ (.int .u8 z)) g q := by
  obtain ⟨l, hl, cs, hc, ht⟩ := h
  refine ⟨l.set i (UInt8.ofNat z.toNat), by simpa using hl, cs.setIfInBounds i (.int .u8 z), by simp [World.setCell, Array.getElem?_modify, hc], ?_⟩
  rw [byteVals_length] at ht
  rw [byteVals_length, List.length_set, Array.toList_setIfInBounds, List.take_set, ht]
  unfold byteVals
  rw [List.map_set]
  congr 1
  rw [UInt8.toNat_ofNat']
  congr 1
  omega

theorem xor_range (a b : Int) : 0 ≤ bits BinOp.xor IntKind.u8 a b ∧ bits BinOp.xor IntKind.u8 a b ≤ 255 := by
  have h : bits BinOp.xor IntKind.u8 a b = IntKind.u8.wrap ((BitVec.ofInt 8 a ^^^ BitVec.ofInt 8 b).toNat : Int) := rfl
  rw [h, Go.IntKind.wrap_u8]
  omega
end Go.Proofs.Ytiiilimmjoadeaa
