/- The law ModelOwn returns true on values: the walk. No condition beyond those that each theorem states. -/
import Derived.Test.YtgkgieemdjbhpaaMB2
import Derived.WalkSpells
import Derived.WalkLawsBesides
namespace Go.Proofs.Ytgkgieemdjbhpaa
open Go.RowKit Go.Maps

set_option maxRecDepth 100000 in
set_option maxHeartbeats 8000000 in
theorem modelOwn_walk (A : Option Addr) (n c : Nat) (l : List UInt8) (w : World) (t : Int) (hf : Form A n c) (hr : n ≤ 140737488351232) (h : BytesIn w A n l) :
    Calls Try.prog 5 #[.slice A n c, .int .u8 t] w fun e w' => e = .returned (.bool true) ∧ Below w.heap.size w w' := by
  obtain ⟨i0, hi0, hz0, hz1, hz2⟩ := info_parts byte_info
  have H := Lib.hid h
  have HF := Lib.hid hf
  clear h hf
  go_enter Try.func5, Try.ntmps5
  go_upto_region 1 with fail
  go_cut [5] (fun s5 wx => ∃ X cx, s5 = .slice X n cx ∧ Bys wx w.heap.size X n cx l ∧ Below w.heap.size w wx)
  case first =>
    go_wp2_with (
      (at_builtin
       refine wpList_append_src _ rfl (.tmp 14) (.tmp 15) 29 rfl w.heap.size 5 i0 _ 1 1 Try.underlying29 hi0 hz0 hz1 hz2 rfl (by omega) _ 0 [] rfl (by exact own_made w _ 1 rfl (Nat.le_refl _)) A n c (byteVals l) rfl (by rw [byteVals_length, H.out.1, Nat.mul_one]) (fun e => (HF.out.2.2 e).1) (by exact (H.out.below ((Below.refl _ _).alloc (Nat.le_refl _) _)).src) (byteVals_one l) (by simp only [maxLen]; omega) (by omega) (by simp) ?_
       intro v1 w1 hown hgr hat
       have OW := Lib.hid hown
       have GR := Lib.hid hgr
       clear hown hgr hat))
    go_meet
    have hbb : Below w.heap.size w w1 := ((Below.refl _ _).alloc (Nat.le_refl _) _).grown GR.out (by simp) (fun q hq => by have h : w.heap.size = q := Option.some.inj hq; omega)
    have h2 := OW.out
    rw [Nat.zero_add, List.nil_append] at h2
    rcases h2.2 with ⟨rfl, h0⟩ | ⟨g, cap, cur, rfl, _⟩
    · subst h0
      exact ⟨none, 0, rfl, h2, hbb⟩
    · exact ⟨_, cap, rfl, h2, hbb⟩
  case rest =>
    obtain ⟨X, cx, rfl, hbx, hb1⟩ := hcut
    obtain ⟨w1, rfl⟩ : ∃ w1 : World, w1 = wc := ⟨_, rfl⟩
    have BX := Lib.hid hbx
    have BL1 := Lib.hid hb1
    have hz1' := hb1.size
    clear hbx hb1
    go_upto_region 3 with (go_at_call 8; refine (mNew _).mono ?_; rintro e w2 ⟨p, b, rfl, hm2, hb2⟩; have M2 := Lib.hid hm2; have HB2 := Lib.hid hb2; have hz2' := hb2.size; clear hm2 hb2)
    go_wp2_with fail
    refine (mPut w1.heap.size p b [] [107] X n cx l _ M2.out hz2' (by decide) (by decide) BX.out.form (BX.out.bytes.below HB2.out)).mono ?_
    by_cases hbig : 512 < n
    · have d1 : decide ((512 : Int) < n) = true := by simp; omega
      rw [own_big (by rw [H.out.1]; exact hbig)]
      rintro e w3 ⟨rfl, hm3, hg3⟩
      have BL3 := Lib.hid (show Below w.heap.size w w3 from (BL1.out.trans (HB2.out.mono hz1')).grown hg3 (by omega) (fun y hy => by have h : b = y := Option.some.inj hy; have h2 := M2.out.ge; omega))
      clear hm3 hg3
      go_wp2_with (go_at_call 20; refine (awake22 _).mono ?_; rintro e w4 ⟨rfl, hb4⟩; have BL4 := Lib.hid (BL3.out.trans (hb4.mono BL3.out.size)); clear hb4)
      go_ret
      exact ⟨rfl, BL4.out⟩
    · have d1 : decide ((512 : Int) < n) = false := by simp; omega
      have hn5 : n ≤ 512 := by omega
      have hl5 : l.length ≤ 512 := by rw [H.out.1]; exact hn5
      rw [(own_put hl5).1, (own_put hl5).2]
      rintro e w3 ⟨rfl, hm3, hg3⟩
      have M3 := Lib.hid hm3
      have hge := hm3.ge
      have BL3 := Lib.hid (show Below w.heap.size w w3 from (BL1.out.trans (HB2.out.mono hz1')).grown hg3 (by omega) (fun y hy => by have h : b = y := Option.some.inj hy; have h2 := M2.out.ge; omega))
      have hz3 := BL3.out.size
      have X3 := Lib.hid (show n = 0 ∨ ∃ g, X = some ⟨g, 0, none⟩ ∧ w.heap.size ≤ g ∧ g < w1.heap.size ∧ SomeBytes w3 g n by
        rcases BX.out.shape with ⟨_, h0, _⟩ | ⟨g, rfl⟩
        · exact .inl h0
        · have hg := BX.out.ge rfl
          exact .inr ⟨g, rfl, hg.1, hg.2, (BX.out.of_eq (w' := w3) (fun g' hg' => by
            cases hg'
            exact (hg3.block g (by omega) (fun e => by have h : g = b := Option.some.inj e; omega)).trans (HB2.out.block g hg.2))).some_bytes⟩)
      clear hm3 hg3 hl5
      have HL := Lib.hid H.out.1
      go_wp2_with fail
      go_loopw [8] (fun i wx => ∃ k : Nat, k ≤ n ∧ i = .int .i64 k ∧ (n = 0 ∨ ∃ g, X = some ⟨g, 0, none⟩ ∧ w.heap.size ≤ g ∧ g < w1.heap.size ∧ SomeBytes wx g n) ∧ (∀ q, w1.heap.size ≤ q → wx.heap[q]? = w3.heap[q]?) ∧ Below w.heap.size w wx) (fun i _ => n - (intOf i).toNat)
      case atStart => exact ⟨0, Nat.zero_le _, rfl, X3.out, fun _ _ => rfl, BL3.out⟩
      case round =>
        obtain ⟨k, hk, rfl, hx, hkp, hbl⟩ := hrel
        obtain ⟨wo, rfl⟩ : ∃ wo : World, wo = wr := ⟨_, rfl⟩
        have XX := Lib.hid hx
        have KP := Lib.hid hkp
        have BB := Lib.hid hbl
        clear hx hkp hbl
        by_cases hlt : k < n
        · have d2 : decide (k < n) = true := by simpa using hlt
          obtain ⟨g, rfl, hg, hg1, hsb⟩ := XX.out.resolve_left (by omega)
          obtain ⟨z, hz⟩ := hsb.cell hlt
          have hfz : wo.frozen? ⟨g, k, none⟩ = false := hsb.free k
          have hgs : g < wo.heap.size := hsb.size
          obtain ⟨x0, x1⟩ := xor_range (z.toNat) t
          have SB := Lib.hid hsb
          clear hsb
          go_wp2_with fail
          go_roundw
          case rel => exact ⟨k + 1, hlt, by go_num, .inr ⟨g, rfl, hg, hg1, SB.out.store x0 x1⟩, fun q hq => (Below.heap_setCell _ _ _ _ (show q ≠ g by omega)).trans (KP.out q hq), BB.out.setCell hg _⟩
          case measure => simp [intOf]; omega
        · have d2 : decide (k < n) = false := by simpa using hlt
          have M4 := Lib.hid (M3.out.keep (w' := wo) (fun q hq _ => KP.out q hq))
          clear XX KP
          go_wp2_with fail
          refine (mGet2 w1.heap.size p b l _ M4.out (by rw [HL.out]; exact hn5)).mono ?_
          rw [HL.out]
          rintro e w5 ⟨Y, cy, rfl, hy5, hb5⟩
          have Y5 := Lib.hid hy5
          have HB5 := Lib.hid hb5
          have BL5 := Lib.hid (BB.out.trans (hb5.mono BB.out.size))
          have hz5 := hb5.size
          have hcv1 := arg_string (c := n) hy5.bytes
          have hcv2 := arg_string (c := c) (H.out.below BL5.out)
          clear hy5 hb5
          go_upto_region 13 with fail
          clear hcv1 hcv2
          have X5 := Lib.hid (show n = 0 ∨ ∃ g, Y = some ⟨g, 0, none⟩ ∧ wo.heap.size ≤ g ∧ SomeBytes w5 g n by
            rcases Y5.out.shape with ⟨_, h0, _⟩ | ⟨g, rfl⟩
            · exact .inl h0
            · exact .inr ⟨g, rfl, (Y5.out.ge rfl).1, Y5.out.some_bytes⟩)
          have hwo := BB.out.size
          clear d2 hlt
          go_wp2_with fail
          go_loopw [11] (fun i wx => ∃ k : Nat, k ≤ n ∧ i = .int .i64 k ∧ (n = 0 ∨ ∃ g, Y = some ⟨g, 0, none⟩ ∧ wo.heap.size ≤ g ∧ SomeBytes wx g n) ∧ (∀ q, q < wo.heap.size → wx.heap[q]? = wo.heap[q]?) ∧ Below w.heap.size w wx) (fun i _ => n - (intOf i).toNat)
          case atStart => exact ⟨0, Nat.zero_le _, rfl, X5.out, fun q hq => HB5.out.block q hq, BL5.out⟩
          case round =>
            obtain ⟨k, hk, rfl, hx, hkp, hbl⟩ := hrel
            obtain ⟨wp, rfl⟩ : ∃ wp : World, wp = wr := ⟨_, rfl⟩
            have XX := Lib.hid hx
            have KP := Lib.hid hkp
            have B6 := Lib.hid hbl
            clear hx hkp hbl
            by_cases hlt : k < n
            · have d2 : decide (k < n) = true := by simpa using hlt
              obtain ⟨g, rfl, hg, hsb⟩ := XX.out.resolve_left (by omega)
              obtain ⟨z, hz⟩ := hsb.cell hlt
              have hfz : wp.frozen? ⟨g, k, none⟩ = false := hsb.free k
              have hgs : g < wp.heap.size := hsb.size
              obtain ⟨x0, x1⟩ := xor_range (z.toNat) t
              have SB := Lib.hid hsb
              clear hsb
              go_wp2_with fail
              go_roundw
              case rel => exact ⟨k + 1, hlt, by go_num, .inr ⟨g, rfl, hg, SB.out.store x0 x1⟩, fun q hq => (Below.heap_setCell _ _ _ _ (show q ≠ g by omega)).trans (KP.out q hq), B6.out.setCell (show w.heap.size ≤ g by omega) _⟩
              case measure => simp [intOf]; omega
            · have d2 : decide (k < n) = false := by simpa using hlt
              have M6 := Lib.hid (M4.out.keep (w' := wp) (fun q _ hq => KP.out q hq))
              clear XX KP
              go_wp2_with fail
              refine (mGet2 w1.heap.size p b l _ M6.out (by rw [HL.out]; exact hn5)).mono ?_
              rw [HL.out]
              rintro e w7 ⟨Z, cz, rfl, hz7, hb7⟩
              have Z7 := Lib.hid hz7
              have BL7 := Lib.hid (B6.out.trans (hb7.mono B6.out.size))
              clear hz7 hb7
              go_wp2_with fail
              refine (awake22 _).mono ?_
              rintro e w8 ⟨rfl, hb8⟩
              have BL8 := Lib.hid (BL7.out.trans (hb8.mono BL7.out.size))
              have hcv1 := arg_string (c := n) (Z7.out.bytes.below hb8)
              have hcv2 := arg_string (c := c) (H.out.below BL8.out)
              clear hb8
              go_wp2_with fail
              go_ret
              exact ⟨rfl, BL8.out⟩
end Go.Proofs.Ytgkgieemdjbhpaa
