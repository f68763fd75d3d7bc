/- The law ModelOwn returns true on values. No condition beyond those that each theorem states. -/
import Derived.Test.YtgkgieemdjbhpaaMA7
import Derived.Laws.BitsLemmas
namespace Go.Proofs.Ytgkgieemdjbhpaa
open Go.RowKit Go.Maps

/-- A row of q bytes in block g, whatever they are. -/
def SomeBytes (w : World) (g q : Nat) : Prop := ∃ l : List UInt8, l.length = q ∧ RowAt w g 5 (byteVals l)
theorem SomeBytes.cell {w : World} {g q i : Nat} (h : SomeBytes w g q) (hi : i < q) : ∃ z : UInt8, w.cell? ⟨g, i, none⟩ = some (.int .u8 (z.toNat : Int)) := by
  obtain ⟨l, hl, hr⟩ := h
  have hil : i < l.length := by omega
  exact ⟨l[i], hr.cell (by rw [byteVals_get, List.getElem?_eq_getElem hil]; rfl)⟩
theorem SomeBytes.free {w : World} {g q : Nat} (h : SomeBytes w g q) (i : Nat) : w.frozen? ⟨g, i, none⟩ = false := by
  obtain ⟨l, hl, hr⟩ := h
  exact hr.free i
theorem SomeBytes.size {w : World} {g q : Nat} (h : SomeBytes w g q) : g < w.heap.size := by
  obtain ⟨l, hl, hr⟩ := h
  exact hr.size
theorem SomeBytes.store {w : World} {g q i : Nat} (h : SomeBytes w g q) {z : Int} (h0 : 0 ≤ z) (h1 : z ≤ 255) : SomeBytes (w.setCell ⟨g, i, none⟩ (.int .u8 z)) g q := by
  obtain ⟨l, hl, cs, hc, ht⟩ := h
  refine ⟨l.set i (UInt8.ofNat z.toNat), by simpa using hl, cs.setIfInBounds i (.int .u8 z), by simp [World.setCell, Array.getElem?_modify, hc], ?_⟩
  rw [byteVals_length] at ht
  rw [byteVals_length, List.length_set, Array.toList_setIfInBounds, List.take_set, ht]
  unfold byteVals
  rw [List.map_set]
  congr 1
  rw [UInt8.toNat_ofNat']
  congr 1
  omega
theorem xor_range (a b : Int) : 0 ≤ bits BinOp.xor IntKind.u8 a b ∧ bits BinOp.xor IntKind.u8 a b ≤ 255 := by
  have h : bits BinOp.xor IntKind.u8 a b = IntKind.u8.wrap ((BitVec.ofInt 8 a ^^^ BitVec.ofInt 8 b).toNat : Int) := rfl
  rw [h, Go.IntKind.wrap_u8]
  omega
theorem Bys.some_bytes {w : World} {base g n c : Nat} {l : List UInt8} (h : Bys w base (some ⟨g, 0, none⟩) n c l) : SomeBytes w g n := ⟨l, h.len, RowAt.of_own h⟩
/-- The law's string of the bytes that came in. -/
theorem arg_string {w : World} {A : Option Addr} {n c : Nat} {l : List UInt8} (h : BytesIn w A n l) : (convert 29 9 (.slice A n c)).run Try.prog w = .ok (encStr l) w := by
  rcases h.2 with h0 | ⟨b, off, rfl, _⟩
  · subst h0
    have hl : l = [] := List.eq_nil_of_length_eq_zero h.1
    subst hl
    cases A with
    | none => exact bytes_string h (.inl rfl)
    | some a =>
      have hl : (loadCells a 0).run Try.prog w = .ok (([] : List Int).map (Value.int .u8)).toArray w := run_loadCells_list (P := Try.prog) w a [] (fun j v hj => by simp at hj)
      rw [run_convert_bytes_string w 29 9 5 _ 0 c Try.underlying29 Try.underlying5 Try.underlying9, run_bytesToString w _ 0 c [] hl]
      rfl
  · exact bytes_string h (.inr ⟨b, off, rfl⟩)
theorem own_put {l : List UInt8} (h : l.length ≤ 512) : putE [] [107] l = 0 ∧ putM [] [107] l = [([107], l)] := by
  have h1 : putE [] [107] l = 0 := by
    unfold putE
    rw [if_neg (by decide), if_neg (by omega), if_neg (by simp [hasM])]
  exact ⟨h1, by unfold putM; rw [if_pos h1]; rfl⟩
theorem own_big {l : List UInt8} (h : 512 < l.length) : putE [] [107] l = 3 := by
  unfold putE
  rw [if_neg (by decide), if_pos h]
theorem own_get (l : List UInt8) : getM [([107], l)] [107] = l ∧ hasM [([107], l)] [107] = true := ⟨rfl, rfl⟩
set_option maxHeartbeats 2000000 in
/-- Get, with what it hands out as bytes of one's own. -/
theorem mGet2 (lo p b : Nat) (l : List UInt8) (w : World) (h : MAt lo w p b [([107], l)]) (hl : l.length ≤ 512) :
    Calls Try.prog 18 #[.pointer (some ⟨p, 0, none⟩), encStr [107]] w fun e w' => ∃ B c, e = .returned (.tuple #[.slice B l.length l.length, .bool true]) ∧ Bys w' w.heap.size B l.length c l ∧ Below w.heap.size w w' := by
  obtain ⟨hblk, _, D, hown, hrep⟩ := h
  have c0 : w.cell? ⟨p, 0, none⟩ = some (.map (some b)) := hblk.cell 0
  have OW := Lib.hid hown
  have hkey := keyS (l := [107]) (by decide)
  have HK := Lib.hid hkey
  obtain ⟨A, n, c, hat, hby⟩ := hrep.val [107] (own_get l).2
  rw [(own_get l).1] at hby
  have hnl : n = l.length := hby.len.symm
  subst hnl
  have HAT := Lib.hid hat
  have HAS := Lib.hid ((hrep.has [107]).trans (own_get l).2)
  have BY := Lib.hid hby
  clear hblk hown hrep hkey hat hby
  go_enter Try.func18, Try.ntmps18
  go_wp2_with (first
    | (at_lookup; refine wpList_lookup_sl _ rfl (.tmp 14) (.tmp 15) 55 rfl 9 29 slaw Try.underlying55 (zeroB _) b _ D rfl OW.out _ (.string [107]) rfl HK.out A l.length c HAT.out _ HAS.out ?_)
    | (go_at_call 26; refine (bclone A l.length c l _ BY.out.form (by omega) BY.out.bytes).mono ?_; rintro e w1 ⟨B, cap, rfl, hB, hb1⟩; have B1 := Lib.hid hB; have HB1 := Lib.hid hb1; clear hB hb1)
    | (go_at_call 32; refine (bclip _ B l.length cap l _ B1.out).mono ?_; rintro e w2 ⟨rfl, rfl⟩))
  go_ret2
  exact ⟨B, cap, rfl, B1.out, HB1.out⟩
end Go.Proofs.Ytgkgieemdjbhpaa
