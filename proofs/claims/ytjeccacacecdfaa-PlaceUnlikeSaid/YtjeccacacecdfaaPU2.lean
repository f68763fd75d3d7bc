/- The law PlaceUnlike returns true on values. No condition beyond those that each theorem states. -/
import Derived.Test.YtjeccacacecdfaaPU1
import Derived.Deep.DeepCutAuto
import Derived.Deep.CutBlock
import Derived.WalkSpells
import Derived.WalkLawsBesides
namespace Go.Proofs.Ytjeccacacecdfaa
open Go.RowKit Go.Shelf Go.Maps

theorem quiet_eq {P : Program} {f : FuncId} {args : Array Value} {w : World} {n : Nat} {v : Value} (h : Calls P f args (w.drewN n) fun e w' => e = .returned v ∧ w.drewN n = w') :
    Calls P f args (w.drewN n) fun e w' => e = .returned v ∧ ∃ m, w' = w.drewN m :=
  h.mono fun _ _ ⟨he, hm⟩ => ⟨he, n, hm.symm⟩
theorem ints_cell {w : World} {g n k : Nat} {l : List Int} {s : Int} (h : IntsIn w (some ⟨g, 0, none⟩) n l) (hs : l[k]? = some s) : w.cell? ⟨g, k, none⟩ = some (.int .i64 s) := by
  obtain ⟨h1, h2⟩ := h
  rcases h2 with h0 | ⟨b, off, hA, _, hc⟩
  · subst h0
    have hl : l = [] := List.eq_nil_of_length_eq_zero h1
    subst hl
    simp at hs
  · cases hA
    have := hc k s hs
    rwa [Nat.zero_add] at this
theorem inL_take {l : List Int} {t : Nat} {u x : Int} (h : l[t]? = some u) : inL (l.take (t + 1)) x = (inL (l.take t) x || u == x) := by
  unfold inL
  rw [List.take_add_one, h]
  by_cases h1 : x ∈ l.take t <;> by_cases h2 : u = x
  · simp [h2]
  · simp [h1]
  · subst h2; simp
  · simp [h1, h2, Ne.symm h2]
theorem inL_no {l : List Int} {x : Int} (h : inL l x = false) : ∀ (k : Nat) (b : Int), l[k]? = some b → b ≠ x := fun k b hb e => by
  subst e
  unfold inL at h
  rw [decide_eq_false_iff_not] at h
  exact h (List.mem_of_getElem? hb)

theorem free_cart {w : World} {b off n j : Nat} {l : List (Int × Int)} {f r : Int} (h : FreesIn w (some ⟨b, off, none⟩) n l) (hf : l[j]? = some (f, r)) : w.cell? ⟨b, off + j * 2, none⟩ = some (.int .i64 f) := by
  obtain ⟨h1, h2, _⟩ := h
  rcases h2 with h0 | ⟨b', off', hA, _, hc⟩
  · subst h0
    have hl : l = [] := List.eq_nil_of_length_eq_zero h1
    subst hl
    simp at hf
  · cases hA
    exact (hc j f r hf).1
theorem free_room {w : World} {b off n j : Nat} {l : List (Int × Int)} {f r : Int} (h : FreesIn w (some ⟨b, off, none⟩) n l) (hf : l[j]? = some (f, r)) : w.cell? ⟨b, off + j * 2 + 1, none⟩ = some (.int .i64 r) := by
  obtain ⟨h1, h2, _⟩ := h
  rcases h2 with h0 | ⟨b', off', hA, _, hc⟩
  · subst h0
    have hl : l = [] := List.eq_nil_of_length_eq_zero h1
    subst hl
    simp at hf
  · cases hA
    exact (hc j f r hf).2
theorem wrap_small {p : Nat} (h : p ≤ 1000000) : IntKind.i64.wrap (p : Int) = (p : Int) := by
  unfold IntKind.wrap
  simp [IntKind.bits, IntKind.signed]
  omega

set_option maxRecDepth 100000 in
set_option maxHeartbeats 20000000 in
theorem placeUnlike_walk (A : Option Addr) (n c : Nat) (fs : List (Int × Int)) (x : Nat) (B : Option Addr) (m d : Nat) (but : List Int) (w : World) (hA : FreesIn w A n fs) (hB : IntsIn w B m but) (hn : n ≤ c) (hc : c ≤ maxLen) (hm : m ≤ d) (hd : d ≤ maxLen) (hx : x ≤ 255) :
    Calls Try.prog 4 #[.slice A n c, .int .u8 x, .slice B m d] w fun e w' => e = .returned (.bool true) ∧ Below w.heap.size w w' := by
  have HA := Lib.hid (hA.take 60)
  have HB0 := Lib.hid hB
  have hc63 : c ≤ 9223372036854775807 := by simp only [maxLen] at hc; omega
  have hm63 : m ≤ 9223372036854775807 := by simp only [maxLen] at hd; omega
  have hn60 : min n 60 ≤ 100 := by omega
  have hM60 : True := trivial
  have hnc : min n 60 ≤ c := by omega
  obtain ⟨K, hK, hK16⟩ : ∃ K : Nat, (x : Int) % 16 = (K : Int) ∧ K < 16 := ⟨x % 16, by omega, by omega⟩
  generalize fs.take 60 = l at *
  clear hA hB hc hd
  go_enter Try.func4, Try.ntmps4
  by_cases h60 : 60 < m
  · skip
    have d6 : decide ((60 : Int) < m) = true := by simp; omega
    have e6 : min m 60 = 60 := by omega
    have HB := Lib.hid (show IntsIn w B 60 (but.take 60) by have h := HB0.out.take 60; rwa [e6] at h)
    have h60d : 60 ≤ d := by omega
    have hM : 60 ≤ 60 := by omega
    clear e6
    generalize but.take 60 = bs at *
    go_upto_region 4 with (go_at_call 7; refine (few A n c _ hn hc63).mono ?_; rintro e w1 ⟨rfl, rfl⟩)
    clear HB0
    go_wp2_with fail
    refine (pick A (min n 60) c l K B 60 d bs _ HA.out HB.out hn60 (by omega)).mono ?_
    rintro e w2 ⟨hb2, h⟩
    have A2 := Lib.hid (HA.out.below hb2)
    have B2 := Lib.hid (HB.out.below hb2)
    have BL2 := Lib.hid hb2
    clear hb2 HA HB
    generalize min n 60 = nn at *
    rcases h with ⟨hno, rfl⟩ | ⟨q, S, g, hqK, hq', hS, rfl, hg, hr⟩
    · clear hno
      go_wp2_with (go_at_call 10; refine (awake14 _).mono ?_; rintro e w4 ⟨rfl, hb4⟩; have BL4 := Lib.hid (BL2.out.trans (hb4.mono BL2.out.size)); clear hb4)
      go_ret
      exact ⟨rfl, BL4.out⟩
    · obtain rfl : q = K := by omega
      have hSl : S.length = (metM l bs).length := by have := hS.perm.length_eq; simpa using this
      have hqS : q ≤ S.length := by omega
      have HU := Lib.hid (unlike_law hS)
      have hq16 : q < 16 := hK16
      have I2 := Lib.hid (show IntsIn w2 (some ⟨g, 0, none⟩) q (S.take q) by
        have h := hr.ints
        rw [List.length_take, show min q S.length = q by omega] at h
        exact h)
      clear hS hr hqK hq' hg hSl hK16
      clear hM60
      go_wp2_with fail
      clear hK hx
      go_loopw [10] (fun i wx => ∃ k : Nat, k ≤ q ∧ i = .int .i64 k ∧ Below w2.heap.size w2 wx) (fun i _ => q - (intOf i).toNat)
      case atStart => exact ⟨0, Nat.zero_le _, rfl, Below.refl _ _⟩
      case round =>
        obtain ⟨k, hk, rfl, hbx⟩ := hrel
        obtain ⟨wo, rfl⟩ : ∃ wo : World, wo = wr := ⟨_, rfl⟩
        have AX := Lib.hid (A2.out.below hbx)
        have BX := Lib.hid (B2.out.below hbx)
        have IX := Lib.hid (I2.out.below hbx)
        have HBX := Lib.hid hbx
        clear hbx
        by_cases hkq : k < q
        · have d1 : decide (k < q) = true := by simpa using hkq
          obtain ⟨s, hs⟩ : ∃ s, S[k]? = some s := ⟨_, List.getElem?_eq_getElem (by omega)⟩
          have ks : ∀ N, (wo.drewN N).cell? ⟨g, k, none⟩ = some (.int .i64 s) := fun N => ints_cell IX.out (by rw [List.getElem?_take_of_lt hkq]; exact hs)
          have ks0 : wo.cell? ⟨g, k, none⟩ = some (.int .i64 s) := ks 0
          have d2 : (roomF l s == 0) = false := by simpa using HU.out.some_ k s hs
          have HSK := Lib.hid hs
          clear hs
          go_wp2_with (go_at_call 12; refine (room A nn c l s _ AX.out (by omega)).mono ?_; rintro e w3 ⟨rfl, rfl⟩)
          clear ks ks0
          go_loopw [11] (fun i wx => ∃ t : Nat, t ≤ 60 ∧ i = .int .i64 t ∧ Below w2.heap.size w2 wx) (fun i _ => 60 - (intOf i).toNat)
          case atStart => exact ⟨0, Nat.zero_le _, rfl, HBX.out⟩
          case round =>
            clear HBX BX IX AX
            obtain ⟨t, ht, rfl, hbx⟩ := hrel
            obtain ⟨wt, rfl⟩ : ∃ wt : World, wt = wr := ⟨_, rfl⟩
            have BX := Lib.hid (B2.out.below hbx)
            have IX := Lib.hid (I2.out.below hbx)
            have HBX := Lib.hid hbx
            have ks : ∀ N, (wt.drewN N).cell? ⟨g, k, none⟩ = some (.int .i64 s) := fun N => ints_cell IX.out (by rw [List.getElem?_take_of_lt hkq]; exact HSK.out)
            clear hbx
            by_cases htm : t < 60
            · have d3 : decide ((t : Int) < 60) = true := by simp; omega
              obtain ⟨b, off, rfl, hbw, hcs⟩ := BX.out.2.resolve_left (by omega)
              obtain ⟨u, hu⟩ : ∃ u, bs[t]? = some u := ⟨_, List.getElem?_eq_getElem (by rw [BX.out.1]; exact htm)⟩
              have kb : ∀ N, (wt.drewN N).cell? ⟨b, off + t, none⟩ = some (.int .i64 u) := fun N => hcs t u hu
              have d4 : (u == s) = false := by simpa using HU.out.out k t s u HSK.out hu
              have d5 : decide (t < d) = true := by simp; omega
              clear hcs hu
              go_wp2_with fail
              go_quiet (fail)
              go_wp2_with fail
              go_roundw
              case rel => exact ⟨t + 1, htm, by go_num, below_drewN HBX.out _⟩
              case measure => simp [intOf]; omega
            · have d3 : decide ((t : Int) < 60) = false := by simp; omega
              clear htm BX IX ks
              go_wp2_with fail
              go_loopw [12] (fun i wx => ∃ t : Nat, t ≤ k ∧ i = .int .i64 t ∧ Below w2.heap.size w2 wx) (fun i _ => k - (intOf i).toNat)
              case atStart => exact ⟨0, Nat.zero_le _, rfl, HBX.out⟩
              case round =>
                clear HBX
                obtain ⟨t, ht, rfl, hbx⟩ := hrel
                obtain ⟨wu, rfl⟩ : ∃ wu : World, wu = wr := ⟨_, rfl⟩
                have AX := Lib.hid (A2.out.below hbx)
                have IX := Lib.hid (I2.out.below hbx)
                have HBT := Lib.hid hbx
                have ks : ∀ N, (wu.drewN N).cell? ⟨g, k, none⟩ = some (.int .i64 s) := fun N => ints_cell IX.out (by rw [List.getElem?_take_of_lt hkq]; exact HSK.out)
                clear hbx
                by_cases htk : t < k
                · have d7 : decide (t < k) = true := by simpa using htk
                  obtain ⟨r, hr⟩ : ∃ r, S[t]? = some r := ⟨_, List.getElem?_eq_getElem (by omega)⟩
                  have kr : ∀ N, (wu.drewN N).cell? ⟨g, t, none⟩ = some (.int .i64 r) := fun N => ints_cell IX.out (by rw [List.getElem?_take_of_lt (by omega)]; exact hr)
                  have hap := HU.out.apart t k r s htk hr HSK.out
                  have d8 : (r == s) = false := by simpa using hap.1
                  have d9 : decide (roomF l r < roomF l s) = false := by simpa using hap.2
                  have htq : t < q := by omega
                  have RT := Lib.hid (fun (t : Int) N => room A nn c l t (wu.drewN N) AX.out (by omega))
                  clear hr hap
                  go_wp2_with fail
                  go_quiet ((go_at_call 12; exact quiet_eq (RT.out _ _)))
                  go_wp2_with fail
                  go_roundw
                  case rel => exact ⟨t + 1, htk, by go_num, below_drewN HBT.out _⟩
                  case measure => simp [intOf]; omega
                · have d7 : decide (t < k) = false := by simpa using htk
                  clear htk
                  go_wp2_with fail
                  go_roundw
                  case rel => exact ⟨k + 1, hkq, by go_num, HBT.out⟩
                  case measure => simp [intOf]; omega
        · have d1 : decide (k < q) = false := by simpa using hkq
          clear hkq AX BX IX
          go_wp2_with fail
          go_loopw [13] (fun i wx => ∃ k : Nat, k ≤ nn ∧ i = .int .i64 k ∧ Below w2.heap.size w2 wx) (fun i _ => nn - (intOf i).toNat)
          case atStart => exact ⟨0, Nat.zero_le _, rfl, HBX.out⟩
          case round =>
            clear HBX
            obtain ⟨j, hj, rfl, hbx⟩ := hrel
            obtain ⟨wo, rfl⟩ : ∃ wo : World, wo = wr := ⟨_, rfl⟩
            have AX := Lib.hid (A2.out.below hbx)
            have BX := Lib.hid (B2.out.below hbx)
            have IX := Lib.hid (I2.out.below hbx)
            have HBX := Lib.hid hbx
            clear hbx
            by_cases hjn : j < nn
            · have d1 : decide (j < nn) = true := by simpa using hjn
              obtain ⟨⟨fc, fr⟩, hf⟩ : ∃ f, l[j]? = some f := ⟨_, List.getElem?_eq_getElem (by rw [AX.out.1]; exact hjn)⟩
              have RT := Lib.hid (fun (t : Int) N => room A nn c l t (wo.drewN N) AX.out (by omega))
              obtain ⟨ab, aoff, rfl, hbw, hcs⟩ := AX.out.2.1.resolve_left (by omega)
              have kc : ∀ N, (wo.drewN N).cell? ⟨ab, aoff + j * 2, none⟩ = some (.int .i64 fc) := fun N => (hcs j fc fr hf).1
              have kr : ∀ N, (wo.drewN N).cell? ⟨ab, aoff + j * 2 + 1, none⟩ = some (.int .i64 fr) := fun N => (hcs j fc fr hf).2
              have HF := Lib.hid hf
              have hjc : j < c := by omega
              clear hf hcs hbw
              go_upto_region 27 with fail
              go_cut [14] (fun s14 wx => s14 = .bool (decide (fr ≤ 0) || fr != roomF l fc) ∧ ∃ N, wx = wo.drewN N)
              case first =>
                by_cases hfr : fr ≤ 0
                · have d2 : decide (fr ≤ 0) = true := by simpa using hfr
                  go_quiet (fail)
                  go_wp2_with fail
                  go_meet
                  exact ⟨by rw [d2]; rfl, _, rfl⟩
                · have d2 : decide (fr ≤ 0) = false := by simpa using hfr
                  go_quiet ((go_at_call 12; exact quiet_eq (RT.out _ _)))
                  go_wp2_with fail
                  go_meet
                  exact ⟨by rw [d2]; rfl, _, rfl⟩
              case rest =>
                obtain ⟨rfl, N0, rfl⟩ := hcut
                obtain ⟨out0, hout⟩ : ∃ b, b = (decide (fr ≤ 0) || fr != roomF l fc) := ⟨_, rfl⟩
                rw [← hout]
                have HO := Lib.hid hout
                clear hout
                obtain ⟨wz, hwz⟩ : ∃ wz : World, wz = wo.drewN N0 := ⟨_, rfl⟩
                have HBZ := Lib.hid (show Below w2.heap.size w2 wz by rw [hwz]; exact below_drewN HBX.out _)
                rw [← hwz]
                clear hwz AX BX IX kc kr HBX RT
                have HHC := Lib.hid hjc
                go_wp2_with fail
                go_loopw [14, 15] (fun v i wx => ∃ t : Nat, t ≤ 60 ∧ i = .int .i64 t ∧ v = .bool (out0 || inL (bs.take t) fc) ∧ Below w2.heap.size w2 wx) (fun _ i _ => 60 - (intOf i).toNat)
                case atStart => exact ⟨0, Nat.zero_le _, rfl, by simp [inL], HBZ.out⟩
                case round =>
                  clear HBZ
                  obtain ⟨t, ht, rfl, rfl, hbx⟩ := hrel
                  obtain ⟨wt, rfl⟩ : ∃ wt : World, wt = wr := ⟨_, rfl⟩
                  have BX := Lib.hid (B2.out.below hbx)
                  have AX := Lib.hid (A2.out.below hbx)
                  have HBX := Lib.hid hbx
                  clear hbx
                  by_cases htm : t < 60
                  · have d3 : decide ((t : Int) < 60) = true := by simp; omega
                    obtain ⟨b, off, rfl, hbw, hcs⟩ := BX.out.2.resolve_left (by omega)
                    obtain ⟨u, hu⟩ : ∃ u, bs[t]? = some u := ⟨_, List.getElem?_eq_getElem (by rw [BX.out.1]; exact htm)⟩
                    have kb : ∀ N, (wt.drewN N).cell? ⟨b, off + t, none⟩ = some (.int .i64 u) := fun N => hcs t u hu
                    have kc : ∀ N, (wt.drewN N).cell? ⟨ab, aoff + j * 2, none⟩ = some (.int .i64 fc) := fun N => free_cart AX.out HF.out
                    have IT := Lib.hid (inL_take (x := fc) hu)
                    have htd : t < d := by omega
                    clear hcs hu
                    cases hv : (out0 || inL (bs.take t) fc) with
                    | true =>
                      have e5 : (out0 || inL (bs.take (t + 1)) fc) = true := by rw [IT.out, ← Bool.or_assoc, hv]; rfl
                      have E5 := Lib.hid e5
                      clear e5 hv
                      go_wp2_with fail
                      go_quiet (fail)
                      go_wp2_with fail
                      go_roundw
                      case rel => exact ⟨t + 1, htm, by go_num, by rw [E5.out], below_drewN HBX.out _⟩
                      case measure => simp [intOf]; omega
                    | false =>
                      by_cases huf : u = fc
                      · have d4 : (u == fc) = true := by simpa using huf
                        have e5 : (out0 || inL (bs.take (t + 1)) fc) = true := by rw [IT.out, ← Bool.or_assoc, hv, d4]; rfl
                        have E5 := Lib.hid e5
                        clear e5 hv huf
                        go_wp2_with fail
                        go_quiet (fail)
                        go_wp2_with fail
                        go_roundw
                        case rel => exact ⟨t + 1, htm, by go_num, by rw [E5.out], below_drewN HBX.out _⟩
                        case measure => simp [intOf]; omega
                      · have d4 : (u == fc) = false := by simpa using huf
                        have e5 : (out0 || inL (bs.take (t + 1)) fc) = false := by rw [IT.out, ← Bool.or_assoc, hv, d4]; rfl
                        have E5 := Lib.hid e5
                        clear e5 hv huf
                        go_wp2_with fail
                        go_quiet (fail)
                        go_wp2_with fail
                        go_roundw
                        case rel => exact ⟨t + 1, htm, by go_num, by rw [E5.out], below_drewN HBX.out _⟩
                        case measure => simp [intOf]; omega
                  · have d3 : decide ((t : Int) < 60) = false := by simp; omega
                    rw [List.take_of_length_le (show bs.length ≤ t by have := BX.out.1; omega)]
                    have HO1 := Lib.hid (fun h : (out0 || inL bs fc) = false => (show out0 = false ∧ inL bs fc = false by simpa using h))
                    generalize (out0 || inL bs fc) = out1 at *
                    clear htm BX AX
                    go_wp2_with fail
                    go_loopw [14, 16] (fun v i wx => ∃ t : Nat, t ≤ q ∧ i = .int .i64 t ∧ v = .bool (out1 || inL (S.take t) fc) ∧ Below w2.heap.size w2 wx) (fun _ i _ => q - (intOf i).toNat)
                    case atStart => exact ⟨0, Nat.zero_le _, rfl, by simp [inL], HBX.out⟩
                    case round =>
                      clear HBX
                      obtain ⟨t, ht, rfl, rfl, hbx⟩ := hrel
                      obtain ⟨wt, rfl⟩ : ∃ wt : World, wt = wr := ⟨_, rfl⟩
                      have IX := Lib.hid (I2.out.below hbx)
                      have AX := Lib.hid (A2.out.below hbx)
                      have HBX := Lib.hid hbx
                      clear hbx
                      by_cases htq : t < q
                      · have d3 : decide (t < q) = true := by simpa using htq
                        obtain ⟨u, hu⟩ : ∃ u, S[t]? = some u := ⟨_, List.getElem?_eq_getElem (by omega)⟩
                        have kb : ∀ N, (wt.drewN N).cell? ⟨g, t, none⟩ = some (.int .i64 u) := fun N => ints_cell IX.out (by rw [List.getElem?_take_of_lt htq]; exact hu)
                        have kc : ∀ N, (wt.drewN N).cell? ⟨ab, aoff + j * 2, none⟩ = some (.int .i64 fc) := fun N => free_cart AX.out HF.out
                        have IT := Lib.hid (inL_take (x := fc) hu)
                        clear hu
                        cases hv : (out1 || inL (S.take t) fc) with
                        | true =>
                          have e5 : (out1 || inL (S.take (t + 1)) fc) = true := by rw [IT.out, ← Bool.or_assoc, hv]; rfl
                          have E5 := Lib.hid e5
                          clear e5 hv
                          go_wp2_with fail
                          go_quiet (fail)
                          go_wp2_with fail
                          go_roundw
                          case rel => exact ⟨t + 1, htq, by go_num, by rw [E5.out], below_drewN HBX.out _⟩
                          case measure => simp [intOf]; omega
                        | false =>
                          by_cases huf : u = fc
                          · have d4 : (u == fc) = true := by simpa using huf
                            have e5 : (out1 || inL (S.take (t + 1)) fc) = true := by rw [IT.out, ← Bool.or_assoc, hv, d4]; rfl
                            have E5 := Lib.hid e5
                            clear e5 hv huf
                            go_wp2_with fail
                            go_quiet (fail)
                            go_wp2_with fail
                            go_roundw
                            case rel => exact ⟨t + 1, htq, by go_num, by rw [E5.out], below_drewN HBX.out _⟩
                            case measure => simp [intOf]; omega
                          · have d4 : (u == fc) = false := by simpa using huf
                            have e5 : (out1 || inL (S.take (t + 1)) fc) = false := by rw [IT.out, ← Bool.or_assoc, hv, d4]; rfl
                            have E5 := Lib.hid e5
                            clear e5 hv huf
                            go_wp2_with fail
                            go_quiet (fail)
                            go_wp2_with fail
                            go_roundw
                            case rel => exact ⟨t + 1, htq, by go_num, by rw [E5.out], below_drewN HBX.out _⟩
                            case measure => simp [intOf]; omega
                      · have d3 : decide (t < q) = false := by simpa using htq
                        obtain rfl : t = q := by omega
                        have HO2 := Lib.hid (fun h : (out1 || inL (S.take t) fc) = false => (show out1 = false ∧ inL (S.take t) fc = false by simpa using h))
                        cases hv : (out1 || inL (S.take t) fc) with
                        | true =>
                          clear hv htq
                          go_wp2_with fail
                          go_quiet (fail)
                          go_wp2_with fail
                          go_roundw
                          case rel => exact ⟨j + 1, hjn, by go_num, below_drewN HBX.out _⟩
                          case measure => simp [intOf]; omega
                        | false =>
                          by_cases hq0 : t = 0
                          · have d4 : decide ((0 : Int) < t) = false := by simp; omega
                            clear hv htq
                            go_wp2_with fail
                            go_quiet (fail)
                            go_wp2_with fail
                            go_roundw
                            case rel => exact ⟨j + 1, hjn, by go_num, below_drewN HBX.out _⟩
                            case measure => simp [intOf]; omega
                          · have d4 : decide ((0 : Int) < t) = true := by simp; omega
                            have d4n : decide (0 < t) = true := by simp; omega
                            obtain ⟨p, hp⟩ : ∃ p : Nat, t = p + 1 := ⟨t - 1, by omega⟩
                            have hp1 : (t : Int) - 1 = (p : Int) := by omega
                            have hpt : p < t := by omega
                            have hw64 : IntKind.i64.wrap ((t : Int) - 1) = (p : Int) := by rw [hp1]; exact wrap_small (by omega)
                            obtain ⟨z, hz⟩ : ∃ z, S[p]? = some z := ⟨_, List.getElem?_eq_getElem (by omega)⟩
                            have kz : ∀ N, (wt.drewN N).cell? ⟨g, p, none⟩ = some (.int .i64 z) := fun N => ints_cell IX.out (by rw [List.getElem?_take_of_lt hpt]; exact hz)
                            have kr : ∀ N, (wt.drewN N).cell? ⟨ab, aoff + j * 2 + 1, none⟩ = some (.int .i64 fr) := fun N => free_room AX.out HF.out
                            have RT := Lib.hid (fun (y : Int) N => room (some ⟨ab, aoff, none⟩) nn c l y (wt.drewN N) AX.out (by omega))
                            have h1 := HO1.out (HO2.out hv).1
                            have h2 := HO.out.symm.trans h1.1
                            simp only [Bool.or_eq_false_iff, decide_eq_false_iff_not, bne_eq_false_iff_eq] at h2
                            have d5 : decide (roomF l z < fr) = false := by
                              have := HU.out.rest p j z (fc, fr) hz HF.out (by have := h2.1; show 0 < fr; omega) h2.2 (inL_no h1.2) (fun k s hk hs => inL_no (HO2.out hv).2 k s (by rw [List.getElem?_take_of_lt (by omega)]; exact hs))
                              simpa using this
                            clear hv htq hz h1 h2 hp
                            go_wp2_with fail
                            go_quiet ((go_at_call 12; exact quiet_eq (RT.out _ _)))
                            go_wp2_with fail
                            go_roundw
                            case rel => exact ⟨j + 1, hjn, by go_num, below_drewN HBX.out _⟩
                            case measure => simp [intOf]; omega
            · have d1 : decide (j < nn) = false := by simpa using hjn
              go_wp2_with (go_at_call 10; refine (awake14 _).mono ?_; rintro e w4 ⟨rfl, hb4⟩; have BL4 := Lib.hid (BL2.out.trans ((HBX.out.trans (hb4.mono HBX.out.size)).mono BL2.out.size)); clear hb4)
              go_ret
              exact ⟨rfl, BL4.out⟩
  · skip
    have d6 : decide ((60 : Int) < m) = false := by simp; omega
    have e6 : min m 60 = m := by omega
    have HB := Lib.hid (show IntsIn w B m (but.take 60) by have h := HB0.out.take 60; rwa [e6] at h)
    have hM : m ≤ 60 := by omega
    clear e6
    generalize but.take 60 = bs at *
    go_upto_region 4 with (go_at_call 7; refine (few A n c _ hn hc63).mono ?_; rintro e w1 ⟨rfl, rfl⟩)
    clear HB0
    go_wp2_with fail
    refine (pick A (min n 60) c l K B m d bs _ HA.out HB.out hn60 (by omega)).mono ?_
    rintro e w2 ⟨hb2, h⟩
    have A2 := Lib.hid (HA.out.below hb2)
    have B2 := Lib.hid (HB.out.below hb2)
    have BL2 := Lib.hid hb2
    clear hb2 HA HB
    generalize min n 60 = nn at *
    rcases h with ⟨hno, rfl⟩ | ⟨q, S, g, hqK, hq', hS, rfl, hg, hr⟩
    · clear hno
      go_wp2_with (go_at_call 10; refine (awake14 _).mono ?_; rintro e w4 ⟨rfl, hb4⟩; have BL4 := Lib.hid (BL2.out.trans (hb4.mono BL2.out.size)); clear hb4)
      go_ret
      exact ⟨rfl, BL4.out⟩
    · obtain rfl : q = K := by omega
      have hSl : S.length = (metM l bs).length := by have := hS.perm.length_eq; simpa using this
      have hqS : q ≤ S.length := by omega
      have HU := Lib.hid (unlike_law hS)
      have hq16 : q < 16 := hK16
      have I2 := Lib.hid (show IntsIn w2 (some ⟨g, 0, none⟩) q (S.take q) by
        have h := hr.ints
        rw [List.length_take, show min q S.length = q by omega] at h
        exact h)
      clear hS hr hqK hq' hg hSl hK16
      clear hM60
      go_wp2_with fail
      clear hK hx
      go_loopw [10] (fun i wx => ∃ k : Nat, k ≤ q ∧ i = .int .i64 k ∧ Below w2.heap.size w2 wx) (fun i _ => q - (intOf i).toNat)
      case atStart => exact ⟨0, Nat.zero_le _, rfl, Below.refl _ _⟩
      case round =>
        obtain ⟨k, hk, rfl, hbx⟩ := hrel
        obtain ⟨wo, rfl⟩ : ∃ wo : World, wo = wr := ⟨_, rfl⟩
        have AX := Lib.hid (A2.out.below hbx)
        have BX := Lib.hid (B2.out.below hbx)
        have IX := Lib.hid (I2.out.below hbx)
        have HBX := Lib.hid hbx
        clear hbx
        by_cases hkq : k < q
        · have d1 : decide (k < q) = true := by simpa using hkq
          obtain ⟨s, hs⟩ : ∃ s, S[k]? = some s := ⟨_, List.getElem?_eq_getElem (by omega)⟩
          have ks : ∀ N, (wo.drewN N).cell? ⟨g, k, none⟩ = some (.int .i64 s) := fun N => ints_cell IX.out (by rw [List.getElem?_take_of_lt hkq]; exact hs)
          have ks0 : wo.cell? ⟨g, k, none⟩ = some (.int .i64 s) := ks 0
          have d2 : (roomF l s == 0) = false := by simpa using HU.out.some_ k s hs
          have HSK := Lib.hid hs
          clear hs
          go_wp2_with (go_at_call 12; refine (room A nn c l s _ AX.out (by omega)).mono ?_; rintro e w3 ⟨rfl, rfl⟩)
          clear ks ks0
          go_loopw [11] (fun i wx => ∃ t : Nat, t ≤ m ∧ i = .int .i64 t ∧ Below w2.heap.size w2 wx) (fun i _ => m - (intOf i).toNat)
          case atStart => exact ⟨0, Nat.zero_le _, rfl, HBX.out⟩
          case round =>
            clear HBX BX IX AX
            obtain ⟨t, ht, rfl, hbx⟩ := hrel
            obtain ⟨wt, rfl⟩ : ∃ wt : World, wt = wr := ⟨_, rfl⟩
            have BX := Lib.hid (B2.out.below hbx)
            have IX := Lib.hid (I2.out.below hbx)
            have HBX := Lib.hid hbx
            have ks : ∀ N, (wt.drewN N).cell? ⟨g, k, none⟩ = some (.int .i64 s) := fun N => ints_cell IX.out (by rw [List.getElem?_take_of_lt hkq]; exact HSK.out)
            clear hbx
            by_cases htm : t < m
            · have d3 : decide (t < m) = true := by simpa using htm
              obtain ⟨b, off, rfl, hbw, hcs⟩ := BX.out.2.resolve_left (by omega)
              obtain ⟨u, hu⟩ : ∃ u, bs[t]? = some u := ⟨_, List.getElem?_eq_getElem (by rw [BX.out.1]; exact htm)⟩
              have kb : ∀ N, (wt.drewN N).cell? ⟨b, off + t, none⟩ = some (.int .i64 u) := fun N => hcs t u hu
              have d4 : (u == s) = false := by simpa using HU.out.out k t s u HSK.out hu
              have d5 : decide (t < d) = true := by simp; omega
              clear hcs hu
              go_wp2_with fail
              go_quiet (fail)
              go_wp2_with fail
              go_roundw
              case rel => exact ⟨t + 1, htm, by go_num, below_drewN HBX.out _⟩
              case measure => simp [intOf]; omega
            · have d3 : decide (t < m) = false := by simpa using htm
              clear htm BX IX ks
              go_wp2_with fail
              go_loopw [12] (fun i wx => ∃ t : Nat, t ≤ k ∧ i = .int .i64 t ∧ Below w2.heap.size w2 wx) (fun i _ => k - (intOf i).toNat)
              case atStart => exact ⟨0, Nat.zero_le _, rfl, HBX.out⟩
              case round =>
                clear HBX
                obtain ⟨t, ht, rfl, hbx⟩ := hrel
                obtain ⟨wu, rfl⟩ : ∃ wu : World, wu = wr := ⟨_, rfl⟩
                have AX := Lib.hid (A2.out.below hbx)
                have IX := Lib.hid (I2.out.below hbx)
                have HBT := Lib.hid hbx
                have ks : ∀ N, (wu.drewN N).cell? ⟨g, k, none⟩ = some (.int .i64 s) := fun N => ints_cell IX.out (by rw [List.getElem?_take_of_lt hkq]; exact HSK.out)
                clear hbx
                by_cases htk : t < k
                · have d7 : decide (t < k) = true := by simpa using htk
                  obtain ⟨r, hr⟩ : ∃ r, S[t]? = some r := ⟨_, List.getElem?_eq_getElem (by omega)⟩
                  have kr : ∀ N, (wu.drewN N).cell? ⟨g, t, none⟩ = some (.int .i64 r) := fun N => ints_cell IX.out (by rw [List.getElem?_take_of_lt (by omega)]; exact hr)
                  have hap := HU.out.apart t k r s htk hr HSK.out
                  have d8 : (r == s) = false := by simpa using hap.1
                  have d9 : decide (roomF l r < roomF l s) = false := by simpa using hap.2
                  have htq : t < q := by omega
                  have RT := Lib.hid (fun (t : Int) N => room A nn c l t (wu.drewN N) AX.out (by omega))
                  clear hr hap
                  go_wp2_with fail
                  go_quiet ((go_at_call 12; exact quiet_eq (RT.out _ _)))
                  go_wp2_with fail
                  go_roundw
                  case rel => exact ⟨t + 1, htk, by go_num, below_drewN HBT.out _⟩
                  case measure => simp [intOf]; omega
                · have d7 : decide (t < k) = false := by simpa using htk
                  clear htk
                  go_wp2_with fail
                  go_roundw
                  case rel => exact ⟨k + 1, hkq, by go_num, HBT.out⟩
                  case measure => simp [intOf]; omega
        · have d1 : decide (k < q) = false := by simpa using hkq
          clear hkq AX BX IX
          go_wp2_with fail
          go_loopw [13] (fun i wx => ∃ k : Nat, k ≤ nn ∧ i = .int .i64 k ∧ Below w2.heap.size w2 wx) (fun i _ => nn - (intOf i).toNat)
          case atStart => exact ⟨0, Nat.zero_le _, rfl, HBX.out⟩
          case round =>
            clear HBX
            obtain ⟨j, hj, rfl, hbx⟩ := hrel
            obtain ⟨wo, rfl⟩ : ∃ wo : World, wo = wr := ⟨_, rfl⟩
            have AX := Lib.hid (A2.out.below hbx)
            have BX := Lib.hid (B2.out.below hbx)
            have IX := Lib.hid (I2.out.below hbx)
            have HBX := Lib.hid hbx
            clear hbx
            by_cases hjn : j < nn
            · have d1 : decide (j < nn) = true := by simpa using hjn
              obtain ⟨⟨fc, fr⟩, hf⟩ : ∃ f, l[j]? = some f := ⟨_, List.getElem?_eq_getElem (by rw [AX.out.1]; exact hjn)⟩
              have RT := Lib.hid (fun (t : Int) N => room A nn c l t (wo.drewN N) AX.out (by omega))
              obtain ⟨ab, aoff, rfl, hbw, hcs⟩ := AX.out.2.1.resolve_left (by omega)
              have kc : ∀ N, (wo.drewN N).cell? ⟨ab, aoff + j * 2, none⟩ = some (.int .i64 fc) := fun N => (hcs j fc fr hf).1
              have kr : ∀ N, (wo.drewN N).cell? ⟨ab, aoff + j * 2 + 1, none⟩ = some (.int .i64 fr) := fun N => (hcs j fc fr hf).2
              have HF := Lib.hid hf
              have hjc : j < c := by omega
              clear hf hcs hbw
              go_upto_region 27 with fail
              go_cut [14] (fun s14 wx => s14 = .bool (decide (fr ≤ 0) || fr != roomF l fc) ∧ ∃ N, wx = wo.drewN N)
              case first =>
                by_cases hfr : fr ≤ 0
                · have d2 : decide (fr ≤ 0) = true := by simpa using hfr
                  go_quiet (fail)
                  go_wp2_with fail
                  go_meet
                  exact ⟨by rw [d2]; rfl, _, rfl⟩
                · have d2 : decide (fr ≤ 0) = false := by simpa using hfr
                  go_quiet ((go_at_call 12; exact quiet_eq (RT.out _ _)))
                  go_wp2_with fail
                  go_meet
                  exact ⟨by rw [d2]; rfl, _, rfl⟩
              case rest =>
                obtain ⟨rfl, N0, rfl⟩ := hcut
                obtain ⟨out0, hout⟩ : ∃ b, b = (decide (fr ≤ 0) || fr != roomF l fc) := ⟨_, rfl⟩
                rw [← hout]
                have HO := Lib.hid hout
                clear hout
                obtain ⟨wz, hwz⟩ : ∃ wz : World, wz = wo.drewN N0 := ⟨_, rfl⟩
                have HBZ := Lib.hid (show Below w2.heap.size w2 wz by rw [hwz]; exact below_drewN HBX.out _)
                rw [← hwz]
                clear hwz AX BX IX kc kr HBX RT
                have HHC := Lib.hid hjc
                go_wp2_with fail
                go_loopw [14, 15] (fun v i wx => ∃ t : Nat, t ≤ m ∧ i = .int .i64 t ∧ v = .bool (out0 || inL (bs.take t) fc) ∧ Below w2.heap.size w2 wx) (fun _ i _ => m - (intOf i).toNat)
                case atStart => exact ⟨0, Nat.zero_le _, rfl, by simp [inL], HBZ.out⟩
                case round =>
                  clear HBZ
                  obtain ⟨t, ht, rfl, rfl, hbx⟩ := hrel
                  obtain ⟨wt, rfl⟩ : ∃ wt : World, wt = wr := ⟨_, rfl⟩
                  have BX := Lib.hid (B2.out.below hbx)
                  have AX := Lib.hid (A2.out.below hbx)
                  have HBX := Lib.hid hbx
                  clear hbx
                  by_cases htm : t < m
                  · have d3 : decide (t < m) = true := by simpa using htm
                    obtain ⟨b, off, rfl, hbw, hcs⟩ := BX.out.2.resolve_left (by omega)
                    obtain ⟨u, hu⟩ : ∃ u, bs[t]? = some u := ⟨_, List.getElem?_eq_getElem (by rw [BX.out.1]; exact htm)⟩
                    have kb : ∀ N, (wt.drewN N).cell? ⟨b, off + t, none⟩ = some (.int .i64 u) := fun N => hcs t u hu
                    have kc : ∀ N, (wt.drewN N).cell? ⟨ab, aoff + j * 2, none⟩ = some (.int .i64 fc) := fun N => free_cart AX.out HF.out
                    have IT := Lib.hid (inL_take (x := fc) hu)
                    have htd : t < d := by omega
                    clear hcs hu
                    cases hv : (out0 || inL (bs.take t) fc) with
                    | true =>
                      have e5 : (out0 || inL (bs.take (t + 1)) fc) = true := by rw [IT.out, ← Bool.or_assoc, hv]; rfl
                      have E5 := Lib.hid e5
                      clear e5 hv
                      go_wp2_with fail
                      go_quiet (fail)
                      go_wp2_with fail
                      go_roundw
                      case rel => exact ⟨t + 1, htm, by go_num, by rw [E5.out], below_drewN HBX.out _⟩
                      case measure => simp [intOf]; omega
                    | false =>
                      by_cases huf : u = fc
                      · have d4 : (u == fc) = true := by simpa using huf
                        have e5 : (out0 || inL (bs.take (t + 1)) fc) = true := by rw [IT.out, ← Bool.or_assoc, hv, d4]; rfl
                        have E5 := Lib.hid e5
                        clear e5 hv huf
                        go_wp2_with fail
                        go_quiet (fail)
                        go_wp2_with fail
                        go_roundw
                        case rel => exact ⟨t + 1, htm, by go_num, by rw [E5.out], below_drewN HBX.out _⟩
                        case measure => simp [intOf]; omega
                      · have d4 : (u == fc) = false := by simpa using huf
                        have e5 : (out0 || inL (bs.take (t + 1)) fc) = false := by rw [IT.out, ← Bool.or_assoc, hv, d4]; rfl
                        have E5 := Lib.hid e5
                        clear e5 hv huf
                        go_wp2_with fail
                        go_quiet (fail)
                        go_wp2_with fail
                        go_roundw
                        case rel => exact ⟨t + 1, htm, by go_num, by rw [E5.out], below_drewN HBX.out _⟩
                        case measure => simp [intOf]; omega
                  · have d3 : decide (t < m) = false := by simpa using htm
                    rw [List.take_of_length_le (show bs.length ≤ t by have := BX.out.1; omega)]
                    have HO1 := Lib.hid (fun h : (out0 || inL bs fc) = false => (show out0 = false ∧ inL bs fc = false by simpa using h))
                    generalize (out0 || inL bs fc) = out1 at *
                    clear htm BX AX
                    go_wp2_with fail
                    go_loopw [14, 16] (fun v i wx => ∃ t : Nat, t ≤ q ∧ i = .int .i64 t ∧ v = .bool (out1 || inL (S.take t) fc) ∧ Below w2.heap.size w2 wx) (fun _ i _ => q - (intOf i).toNat)
                    case atStart => exact ⟨0, Nat.zero_le _, rfl, by simp [inL], HBX.out⟩
                    case round =>
                      clear HBX
                      obtain ⟨t, ht, rfl, rfl, hbx⟩ := hrel
                      obtain ⟨wt, rfl⟩ : ∃ wt : World, wt = wr := ⟨_, rfl⟩
                      have IX := Lib.hid (I2.out.below hbx)
                      have AX := Lib.hid (A2.out.below hbx)
                      have HBX := Lib.hid hbx
                      clear hbx
                      by_cases htq : t < q
                      · have d3 : decide (t < q) = true := by simpa using htq
                        obtain ⟨u, hu⟩ : ∃ u, S[t]? = some u := ⟨_, List.getElem?_eq_getElem (by omega)⟩
                        have kb : ∀ N, (wt.drewN N).cell? ⟨g, t, none⟩ = some (.int .i64 u) := fun N => ints_cell IX.out (by rw [List.getElem?_take_of_lt htq]; exact hu)
                        have kc : ∀ N, (wt.drewN N).cell? ⟨ab, aoff + j * 2, none⟩ = some (.int .i64 fc) := fun N => free_cart AX.out HF.out
                        have IT := Lib.hid (inL_take (x := fc) hu)
                        clear hu
                        cases hv : (out1 || inL (S.take t) fc) with
                        | true =>
                          have e5 : (out1 || inL (S.take (t + 1)) fc) = true := by rw [IT.out, ← Bool.or_assoc, hv]; rfl
                          have E5 := Lib.hid e5
                          clear e5 hv
                          go_wp2_with fail
                          go_quiet (fail)
                          go_wp2_with fail
                          go_roundw
                          case rel => exact ⟨t + 1, htq, by go_num, by rw [E5.out], below_drewN HBX.out _⟩
                          case measure => simp [intOf]; omega
                        | false =>
                          by_cases huf : u = fc
                          · have d4 : (u == fc) = true := by simpa using huf
                            have e5 : (out1 || inL (S.take (t + 1)) fc) = true := by rw [IT.out, ← Bool.or_assoc, hv, d4]; rfl
                            have E5 := Lib.hid e5
                            clear e5 hv huf
                            go_wp2_with fail
                            go_quiet (fail)
                            go_wp2_with fail
                            go_roundw
                            case rel => exact ⟨t + 1, htq, by go_num, by rw [E5.out], below_drewN HBX.out _⟩
                            case measure => simp [intOf]; omega
                          · have d4 : (u == fc) = false := by simpa using huf
                            have e5 : (out1 || inL (S.take (t + 1)) fc) = false := by rw [IT.out, ← Bool.or_assoc, hv, d4]; rfl
                            have E5 := Lib.hid e5
                            clear e5 hv huf
                            go_wp2_with fail
                            go_quiet (fail)
                            go_wp2_with fail
                            go_roundw
                            case rel => exact ⟨t + 1, htq, by go_num, by rw [E5.out], below_drewN HBX.out _⟩
                            case measure => simp [intOf]; omega
                      · have d3 : decide (t < q) = false := by simpa using htq
                        obtain rfl : t = q := by omega
                        have HO2 := Lib.hid (fun h : (out1 || inL (S.take t) fc) = false => (show out1 = false ∧ inL (S.take t) fc = false by simpa using h))
                        cases hv : (out1 || inL (S.take t) fc) with
                        | true =>
                          clear hv htq
                          go_wp2_with fail
                          go_quiet (fail)
                          go_wp2_with fail
                          go_roundw
                          case rel => exact ⟨j + 1, hjn, by go_num, below_drewN HBX.out _⟩
                          case measure => simp [intOf]; omega
                        | false =>
                          by_cases hq0 : t = 0
                          · have d4 : decide ((0 : Int) < t) = false := by simp; omega
                            clear hv htq
                            go_wp2_with fail
                            go_quiet (fail)
                            go_wp2_with fail
                            go_roundw
                            case rel => exact ⟨j + 1, hjn, by go_num, below_drewN HBX.out _⟩
                            case measure => simp [intOf]; omega
                          · have d4 : decide ((0 : Int) < t) = true := by simp; omega
                            have d4n : decide (0 < t) = true := by simp; omega
                            obtain ⟨p, hp⟩ : ∃ p : Nat, t = p + 1 := ⟨t - 1, by omega⟩
                            have hp1 : (t : Int) - 1 = (p : Int) := by omega
                            have hpt : p < t := by omega
                            have hw64 : IntKind.i64.wrap ((t : Int) - 1) = (p : Int) := by rw [hp1]; exact wrap_small (by omega)
                            obtain ⟨z, hz⟩ : ∃ z, S[p]? = some z := ⟨_, List.getElem?_eq_getElem (by omega)⟩
                            have kz : ∀ N, (wt.drewN N).cell? ⟨g, p, none⟩ = some (.int .i64 z) := fun N => ints_cell IX.out (by rw [List.getElem?_take_of_lt hpt]; exact hz)
                            have kr : ∀ N, (wt.drewN N).cell? ⟨ab, aoff + j * 2 + 1, none⟩ = some (.int .i64 fr) := fun N => free_room AX.out HF.out
                            have RT := Lib.hid (fun (y : Int) N => room (some ⟨ab, aoff, none⟩) nn c l y (wt.drewN N) AX.out (by omega))
                            have h1 := HO1.out (HO2.out hv).1
                            have h2 := HO.out.symm.trans h1.1
                            simp only [Bool.or_eq_false_iff, decide_eq_false_iff_not, bne_eq_false_iff_eq] at h2
                            have d5 : decide (roomF l z < fr) = false := by
                              have := HU.out.rest p j z (fc, fr) hz HF.out (by have := h2.1; show 0 < fr; omega) h2.2 (inL_no h1.2) (fun k s hk hs => inL_no (HO2.out hv).2 k s (by rw [List.getElem?_take_of_lt (by omega)]; exact hs))
                              simpa using this
                            clear hv htq hz h1 h2 hp
                            go_wp2_with fail
                            go_quiet ((go_at_call 12; exact quiet_eq (RT.out _ _)))
                            go_wp2_with fail
                            go_roundw
                            case rel => exact ⟨j + 1, hjn, by go_num, below_drewN HBX.out _⟩
                            case measure => simp [intOf]; omega
            · have d1 : decide (j < nn) = false := by simpa using hjn
              go_wp2_with (go_at_call 10; refine (awake14 _).mono ?_; rintro e w4 ⟨rfl, hb4⟩; have BL4 := Lib.hid (BL2.out.trans ((HBX.out.trans (hb4.mono HBX.out.size)).mono BL2.out.size)); clear hb4)
              go_ret
              exact ⟨rfl, BL4.out⟩
end Go.Proofs.Ytjeccacacecdfaa
