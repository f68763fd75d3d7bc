/- The law CartOwn returns true on values. No condition beyond those that each theorem states. -/
import Derived.Test.YtiiilimmjoadeaaCb3
import Derived.Test.YtiiilimmjoadeaaO
namespace Go.Proofs.Ytiiilimmjoadeaa
open Go.RowKit

set_option maxRecDepth 100000 in
set_option maxHeartbeats 4000000 in
theorem cartOwn_short (b off n c : Nat) (l : List UInt8) (w : World) (t : Int) (hn : 1 ≤ n) (hr : n ≤ 256) (h : BytesIn w (some ⟨b, off, none⟩) n l) : Calls Try.prog 3 #[.slice (some ⟨b, off, none⟩) n c, .int .u8 t] w fun e w' => e = .returned (.bool true) ∧ Below w.heap.size w w' := by
  have H := Lib.hid h
  obtain ⟨i0, hi0, hz0, hz1, hz2⟩ := info_parts byte_info
  clear h
  go_enter Try.func3, Try.ntmps3
  go_wp2_with (at_builtin
               refine wpList_append_live _ rfl (.tmp 16) (.tmp 17) 22 rfl w.heap.size 5 i0 _ 1 1 Try.underlying22 hi0 hz0 hz1 hz2 rfl (by omega) w.heap.size 0 0 [] rfl (by exact own_made _ _ 1 rfl (Nat.le_refl _)) b off n c (byteVals l) rfl (by rw [byteVals_length, H.out.1, Nat.mul_one]) (by exact (H.out.below ((Below.refl _ _).alloc (Nat.le_refl _) _)).src) (byteVals_one _) (by simp only [maxLen]; omega) (by omega) (by simp) ?_
               intro g cap w1 hown hgr hat hlt
               have hcap := own_cap hown
               have R1 := Lib.hid (show RowAt w1 g 5 (byteVals l) from RowAt.of_own hown)
               have hcv := bytes_string (c := cap) R1.out.bytesIn (.inr ⟨_, _, rfl⟩)
               rw [H.out.1] at hcv
               have hg : w.heap.size ≤ g := by
                 rcases hat with h | h
                 · omega
                 · rw [World.size_alloc] at h; omega
               have B1 := Lib.hid (show Below w.heap.size w w1 from ((Below.refl _ _).alloc (Nat.le_refl _) _).grown hgr (by simp) (fun q hq => by have e := Option.some.inj hq; omega))
               clear hown hgr hat)
  refine (pNew 3 _).mono ?_
  rintro e w2 ⟨p, rfl, h1, k1⟩
  have P2 := Lib.hid (show Priv w1 w2 p [] 3 false from h1)
  have R2 := Lib.hid (k1.row R1.out (by decide) (by decide))
  clear h1 k1
  go_wp2_with fail
  refine (pAppend w1 p [] 3 false _ n cap l _ P2.out (H.out.1 ▸ R2.out.bytesIn)).mono ?_
  rintro e w3 ⟨rfl, h1, k3⟩
  rw [appendM_ok (M := []) (most := 3) (by rw [H.out.1]; omega) (by rw [H.out.1]; omega) (by simp)] at h1 ⊢
  have P3 := Lib.hid (show Priv w1 w3 p [(l, false)] 3 false from h1)
  have R3 := Lib.hid (show SomeBytes w3 g n from ⟨l, H.out.1, k3.row R2.out (by decide) (by decide)⟩)
  have B3 := Lib.hid (show Below w.heap.size w w3 from B1.out.trans (P3.out.base.mono B1.out.size))
  clear h1 k3
  go_wp2_with fail
  go_loopw [10] (fun i wr => ∃ k : Nat, k ≤ n ∧ i = .int .i64 k ∧ SomeBytes wr g n ∧ wr.heap.size = w3.heap.size ∧ (∀ q, w1.heap.size ≤ q → wr.heap[q]? = w3.heap[q]?) ∧ Below w.heap.size w wr) (fun i _ => n - (intOf i).toNat)
  case atStart => exact ⟨0, by omega, rfl, R3.out, rfl, fun _ _ => rfl, B3.out⟩
  case round =>
    obtain ⟨k, hk, rfl, hsb, hsz, hkp, hbl⟩ := hrel
    by_cases hlt' : k < n
    · obtain ⟨z, hz⟩ := hsb.cell hlt'
      have hfz : wr.frozen? ⟨g, k, none⟩ = false := hsb.free k
      have hgs : g < wr.heap.size := hsb.size
      obtain ⟨x0, x1⟩ := xor_range (z.toNat) t
      have SB := Lib.hid hsb
      have KP := Lib.hid hkp
      have BB := Lib.hid hbl
      have SZ := Lib.hid hsz
      clear hsb hkp hbl hcv hsz
      go_wp2_with fail
      go_roundw
      case rel => exact ⟨k + 1, hlt', by go_num, SB.out.store x0 x1, by simpa [World.setCell] using SZ.out, fun q hq => (Below.heap_setCell _ _ _ _ (show q ≠ g by omega)).trans (KP.out q hq), BB.out.setCell hg _⟩
      case measure => simp [intOf]; omega
    · obtain rfl : k = n := by omega
      have P4 := Lib.hid ((P3.out.foot.keep (fun q hq _ => hkp q hq)).bare)
      have B4 := Lib.hid hbl
      clear hkp hbl hcv hsb hsz
      go_wp2_with fail
      refine (pRead (bare wr) p _ 3 false 0 _ P4.out).mono ?_
      rintro e w5 ⟨v5, rfl, o5, h1, b5⟩
      have P5 := Lib.hid h1
      have O5 := Lib.hid (show OutB wr w5 v5 l from o5)
      have N5 := Lib.hid b5
      clear h1 o5 b5
      have hcv := O5.out.string
      simp only [show (readM [(l, false)] false 0).2 = 0 from rfl]
      go_wp2_with fail
      have hl := H.out.1
      rcases O5.out with ⟨_, h0⟩ | ⟨g5, cap5, rfl, hg5, hc5, hm5, hr5⟩
      · rw [h0] at hl
        simp at hl
        omega
      rw [hl] at hc5 ⊢
      have L5 := Lib.hid (show SomeBytes w5 g5 k from ⟨l, hl, hr5⟩)
      clear hcv hr5 hl
      obtain ⟨wo, rfl⟩ : ∃ wo : World, wo = wr := ⟨_, rfl⟩
      go_loopw [13] (fun i wq => ∃ j : Nat, j ≤ k ∧ i = .int .i64 j ∧ SomeBytes wq g5 k ∧ Below wo.heap.size wo wq) (fun i _ => k - (intOf i).toNat)
      case atStart => exact ⟨0, by omega, rfl, L5.out, N5.out⟩
      case round =>
        obtain ⟨j, hj, rfl, hsb, hbl⟩ := hrel
        by_cases hlj : j < k
        · obtain ⟨z, hz⟩ := hsb.cell hlj
          have hfz : wr.frozen? ⟨g5, j, none⟩ = false := hsb.free j
          have hgs : g5 < wr.heap.size := hsb.size
          obtain ⟨x0, x1⟩ := xor_range (z.toNat) t
          have SB := Lib.hid hsb
          have BB := Lib.hid hbl
          clear hsb hbl
          go_wp2_with fail
          go_roundw
          case rel => exact ⟨j + 1, hlj, by go_num, SB.out.store x0 x1, BB.out.setCell hg5 _⟩
          case measure => simp [intOf]; omega
        · obtain rfl : j = k := by omega
          have P6 := Lib.hid (P4.out.below hbl)
          have B6 := Lib.hid (B4.out.trans (hbl.mono B4.out.size))
          clear hbl hsb
          go_wp2_with fail
          refine (pRead (bare wo) p _ 3 false 0 _ P6.out).mono ?_
          rintro e w7 ⟨v7, rfl, o7, h1, b7⟩
          have O7 := Lib.hid (show OutB wr w7 v7 l from o7)
          have B7 := Lib.hid (B6.out.trans (b7.mono B6.out.size))
          clear h1 o7 b7
          simp only [show (readM [(l, false)] false 0).2 = 0 from rfl]
          go_wp2_with fail
          refine (awake07 _).mono ?_
          rintro e w8 ⟨rfl, hb8⟩
          have hcv := (O7.out.keeps (Keeps.of_below hb8)).string
          have B8 := Lib.hid (B7.out.trans (hb8.mono B7.out.size))
          clear hb8
          go_wp2_with fail
          go_ret
          exact ⟨rfl, B8.out⟩

set_option maxRecDepth 100000 in
set_option maxHeartbeats 4000000 in
theorem cartOwn_long (b off n c : Nat) (l : List UInt8) (w : World) (t : Int) (hr : 256 < n) (hreach : n ≤ 140737488351232) (h : BytesIn w (some ⟨b, off, none⟩) n l) : Calls Try.prog 3 #[.slice (some ⟨b, off, none⟩) n c, .int .u8 t] w fun e w' => e = .returned (.bool true) ∧ Below w.heap.size w w' := by
  have H := Lib.hid h
  obtain ⟨i0, hi0, hz0, hz1, hz2⟩ := info_parts byte_info
  obtain ⟨x, hx⟩ : ∃ x, x = l.take 256 := ⟨_, rfl⟩
  have HX := Lib.hid (show x.length = 256 by rw [hx, List.length_take, h.1]; omega)
  have HT := Lib.hid hx
  clear h hx
  go_enter Try.func3, Try.ntmps3
  go_wp2_with (at_builtin
               refine wpList_append_live _ rfl (.tmp 16) (.tmp 17) 22 rfl w.heap.size 5 i0 _ 1 1 Try.underlying22 hi0 hz0 hz1 hz2 rfl (by omega) w.heap.size 0 0 [] rfl (by exact own_made _ _ 1 rfl (Nat.le_refl _)) b off n c (byteVals l) rfl (by rw [byteVals_length, H.out.1, Nat.mul_one]) (by exact (H.out.below ((Below.refl _ _).alloc (Nat.le_refl _) _)).src) (byteVals_one _) (by simp only [maxLen]; omega) (by omega) (by simp) ?_
               intro g cap w1 hown hgr hat hlt
               have hcap := own_cap hown
               have hc256 : 256 ≤ cap := by omega
               have R1 := Lib.hid (show RowAt w1 g 5 (byteVals x) from by rw [HT.out]; unfold byteVals; rw [List.map_take]; exact (RowAt.of_own hown).less 256)
               have hcv := bytes_string (c := cap) R1.out.bytesIn (.inr ⟨_, _, rfl⟩)
               rw [HX.out] at hcv
               have hg : w.heap.size ≤ g := by
                 rcases hat with h | h
                 · omega
                 · rw [World.size_alloc] at h; omega
               have B1 := Lib.hid (show Below w.heap.size w w1 from ((Below.refl _ _).alloc (Nat.le_refl _) _).grown hgr (by simp) (fun q hq => by have e := Option.some.inj hq; omega))
               clear hown hgr hat)
  refine (pNew 3 _).mono ?_
  rintro e w2 ⟨p, rfl, h1, k1⟩
  have P2 := Lib.hid (show Priv w1 w2 p [] 3 false from h1)
  have R2 := Lib.hid (k1.row R1.out (by decide) (by decide))
  clear h1 k1
  go_wp2_with fail
  refine (pAppend w1 p [] 3 false _ 256 cap x _ P2.out (HX.out ▸ R2.out.bytesIn)).mono ?_
  rintro e w3 ⟨rfl, h1, k3⟩
  rw [appendM_ok (M := []) (most := 3) (by rw [HX.out]; omega) (by rw [HX.out]; omega) (by simp)] at h1 ⊢
  have P3 := Lib.hid (show Priv w1 w3 p [(x, false)] 3 false from h1)
  have R3 := Lib.hid (show SomeBytes w3 g 256 from ⟨x, HX.out, k3.row R2.out (by decide) (by decide)⟩)
  have B3 := Lib.hid (show Below w.heap.size w w3 from B1.out.trans (P3.out.base.mono B1.out.size))
  clear h1 k3
  go_wp2_with fail
  go_loopw [10] (fun i wr => ∃ k : Nat, k ≤ 256 ∧ i = .int .i64 k ∧ SomeBytes wr g 256 ∧ wr.heap.size = w3.heap.size ∧ (∀ q, w1.heap.size ≤ q → wr.heap[q]? = w3.heap[q]?) ∧ Below w.heap.size w wr) (fun i _ => 256 - (intOf i).toNat)
  case atStart => exact ⟨0, by omega, rfl, R3.out, rfl, fun _ _ => rfl, B3.out⟩
  case round =>
    obtain ⟨k, hk, rfl, hsb, hsz, hkp, hbl⟩ := hrel
    by_cases hlt' : k < 256
    · obtain ⟨z, hz⟩ := hsb.cell hlt'
      have hfz : wr.frozen? ⟨g, k, none⟩ = false := hsb.free k
      have hgs : g < wr.heap.size := hsb.size
      obtain ⟨x0, x1⟩ := xor_range (z.toNat) t
      have SB := Lib.hid hsb
      have KP := Lib.hid hkp
      have BB := Lib.hid hbl
      have SZ := Lib.hid hsz
      clear hsb hkp hbl hcv hsz
      go_wp2_with fail
      go_roundw
      case rel => exact ⟨k + 1, hlt', by go_num, SB.out.store x0 x1, by simpa [World.setCell] using SZ.out, fun q hq => (Below.heap_setCell _ _ _ _ (show q ≠ g by omega)).trans (KP.out q hq), BB.out.setCell hg _⟩
      case measure => simp [intOf]; omega
    · obtain rfl : k = 256 := by omega
      have P4 := Lib.hid ((P3.out.foot.keep (fun q hq _ => hkp q hq)).bare)
      have B4 := Lib.hid hbl
      clear hkp hbl hcv hsb hsz
      go_wp2_with fail
      refine (pRead (bare wr) p _ 3 false 0 _ P4.out).mono ?_
      rintro e w5 ⟨v5, rfl, o5, h1, b5⟩
      have P5 := Lib.hid h1
      have O5 := Lib.hid (show OutB wr w5 v5 x from o5)
      have N5 := Lib.hid b5
      clear h1 o5 b5
      have hcv := O5.out.string
      simp only [show (readM [(x, false)] false 0).2 = 0 from rfl]
      go_wp2_with fail
      have hl := HX.out
      rcases O5.out with ⟨_, h0⟩ | ⟨g5, cap5, rfl, hg5, hc5, hm5, hr5⟩
      · rw [h0] at hl
        simp at hl
      rw [hl] at hc5 ⊢
      have L5 := Lib.hid (show SomeBytes w5 g5 256 from ⟨x, hl, hr5⟩)
      clear hcv hr5 hl
      obtain ⟨wo, rfl⟩ : ∃ wo : World, wo = wr := ⟨_, rfl⟩
      go_loopw [13] (fun i wq => ∃ j : Nat, j ≤ 256 ∧ i = .int .i64 j ∧ SomeBytes wq g5 256 ∧ Below wo.heap.size wo wq) (fun i _ => 256 - (intOf i).toNat)
      case atStart => exact ⟨0, by omega, rfl, L5.out, N5.out⟩
      case round =>
        obtain ⟨j, hj, rfl, hsb, hbl⟩ := hrel
        by_cases hlj : j < 256
        · obtain ⟨z, hz⟩ := hsb.cell hlj
          have hfz : wr.frozen? ⟨g5, j, none⟩ = false := hsb.free j
          have hgs : g5 < wr.heap.size := hsb.size
          obtain ⟨x0, x1⟩ := xor_range (z.toNat) t
          have SB := Lib.hid hsb
          have BB := Lib.hid hbl
          clear hsb hbl
          go_wp2_with fail
          go_roundw
          case rel => exact ⟨j + 1, hlj, by go_num, SB.out.store x0 x1, BB.out.setCell hg5 _⟩
          case measure => simp [intOf]; omega
        · obtain rfl : j = 256 := by omega
          have P6 := Lib.hid (P4.out.below hbl)
          have B6 := Lib.hid (B4.out.trans (hbl.mono B4.out.size))
          clear hbl hsb
          go_wp2_with fail
          refine (pRead (bare wo) p _ 3 false 0 _ P6.out).mono ?_
          rintro e w7 ⟨v7, rfl, o7, h1, b7⟩
          have O7 := Lib.hid (show OutB wr w7 v7 x from o7)
          have B7 := Lib.hid (B6.out.trans (b7.mono B6.out.size))
          clear h1 o7 b7
          simp only [show (readM [(x, false)] false 0).2 = 0 from rfl]
          go_wp2_with fail
          refine (awake07 _).mono ?_
          rintro e w8 ⟨rfl, hb8⟩
          have hcv := (O7.out.keeps (Keeps.of_below hb8)).string
          have B8 := Lib.hid (B7.out.trans (hb8.mono B7.out.size))
          clear hb8
          go_wp2_with fail
          go_ret
          exact ⟨rfl, B8.out⟩
theorem cartOwn_walk (A : Option Addr) (n c : Nat) (l : List UInt8) (w : World) (t : Int) (hr : n ≤ 140737488351232) (h : BytesIn w A n l) (hA : n = 0 ∨ ∃ b off, A = some ⟨b, off, none⟩) (h0 : A = none → n = 0 ∧ c = 0) :
    Calls Try.prog 3 #[.slice A n c, .int .u8 t] w fun e w' => e = .returned (.bool true) ∧ Below w.heap.size w w' := by
  rcases Nat.eq_zero_or_pos n with hn | hn
  · subst hn
    cases A with
    | none =>
      obtain ⟨_, rfl⟩ := h0 rfl
      exact cartOwn_none w t
    | some a => exact cartOwn_empty a c w t
  · obtain ⟨b, off, rfl⟩ := hA.resolve_left (by omega)
    by_cases hs : n ≤ 256
    · exact cartOwn_short b off n c l w t hn hs h
    · exact cartOwn_long b off n c l w t (by omega) hr h

section
open Go.ChangeShapes Go.WideShapes Go.ChangeAt Go.Deep
variable {H : Type} {enc : TypeId × Value → H} {w : World} {base : Nat} {spare : Nat → Bool} {held : Bool}
/-- The datum of bytes that come in has at least their number of elements. -/
theorem open_bytes_len {A : Option Addr} {n c : Nat} {d : DataW H} {p : List MemPlace} (h : DataW.Trod enc Try.prog w base spare held 22 (.slice A n c) d p) : n = 0 ∨ ∃ es sp, d = .slice es sp ∧ es.length = n := by
  obtain ⟨fuel, hf⟩ := h
  rcases open_ints Try.underlying22 Try.underlying5 byteCells hf with ⟨hcs, _⟩ | ⟨a, n', c', zs, hcs, _, hl, hm, hz, hx, hcell, hwf⟩
  · injection hcs with hcs
    injection hcs with _ hn _
    exact .inl hn
  · injection hcs with hcs
    injection hcs with _ hn _
    subst hn
    injection hx with hd _
    have hnz : n ≤ zs.length := by rw [hz]; split <;> omega
    exact .inr ⟨_, _, hd, by simp [lits]; omega⟩
end
end Go.Proofs.Ytiiilimmjoadeaa
