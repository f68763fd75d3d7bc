/- The law PlacePicks returns true on values. No condition beyond those that each theorem states. -/
import Derived.Test.YtjeccacacecdfaaPL6
namespace Go.Proofs.Ytjeccacacecdfaa
open Go.RowKit Go.Shelf Go.Maps

/-- There is an order in which they are chosen. -/
theorem ranked_ex (E : List (Int × Int)) (hnd : (E.map Prod.fst).Nodup) : ∃ S, Ranked E S := by
  refine ⟨(E.map Prod.fst).mergeSort (fun x y => !ltE E y x), List.mergeSort_perm _ _, ?_⟩
  have hs : ((E.map Prod.fst).mergeSort (fun x y => !ltE E y x)).Pairwise (fun x y => (!ltE E y x) = true) := List.pairwise_mergeSort (fun a b c h1 h2 => by
    simp only [Bool.not_eq_true'] at *
    exact ltE_ntrans E h2 h1) (fun a b => by
    cases h1 : ltE E b a with
    | false => rfl
    | true =>
      cases h2 : ltE E a b with
      | false => rfl
      | true =>
        have := ltE_trans E h1 h2
        rw [ltE_irrefl] at this
        cases this) _
  have hn : ((E.map Prod.fst).mergeSort (fun x y => !ltE E y x)).Nodup := ((List.mergeSort_perm _ _).nodup_iff).2 hnd
  rw [List.nodup_iff_pairwise_ne] at hn
  rw [List.pairwise_iff_getElem] at hs hn ⊢
  intro i j hi hj hij
  have h1 := hs i j hi hj hij
  exact ltE_total E (hn i j hi hj hij) (by simpa using h1)

set_option maxRecDepth 100000 in
set_option maxHeartbeats 4000000 in
theorem placePicks_walk (A : Option Addr) (n c : Nat) (fs : List (Int × Int)) (k : Int) (B : Option Addr) (m d : Nat) (but : List Int) (w : World) (hA : FreesIn w A n fs) (hB : IntsIn w B m but) (hn : n ≤ c) (hc : c ≤ maxLen) (hm : m ≤ d) (hd : d ≤ maxLen) :
    Calls Try.prog 3 #[.slice A n c, .int .i64 k, .slice B m d] w fun e w' => e = .returned (.bool true) ∧ Below w.heap.size w w' := by
  have HA := Lib.hid (hA.take 60)
  have HB0 := Lib.hid hB
  have hc63 : c ≤ 9223372036854775807 := by simp only [maxLen] at hc; omega
  have hm63 : m ≤ 9223372036854775807 := by simp only [maxLen] at hd; omega
  have hn60 : min n 60 ≤ 100 := by omega
  obtain ⟨S, hS⟩ := ranked_ex (metM (fs.take 60) (but.take 60)) (metK_nodup _ _ _)
  have HS := Lib.hid hS
  have hElen : (metM (fs.take 60) (but.take 60)).length ≤ 100 := by
    have := metK_len (fs.take 60) (but.take 60) (fs.take 60).length
    rw [List.length_take] at this
    unfold metM
    rw [List.length_take]
    omega
  have hSl : S.length = (metM (fs.take 60) (but.take 60)).length := by have := hS.perm.length_eq; simpa using this
  have HSL := Lib.hid hSl
  clear hA hB hc hd hS hSl
  go_enter Try.func3, Try.ntmps3
  by_cases h60 : 60 < m
  · have d6 : decide ((60 : Int) < m) = true := by simp; omega
    have e6 : min m 60 = 60 := by omega
    have HB := Lib.hid (show IntsIn w B 60 (but.take 60) by have h := HB0.out.take 60; rwa [e6] at h)
    have h60d : 60 ≤ d := by omega
    clear e6
    go_upto_region 4 with (go_at_call 7; refine (few A n c _ hn hc63).mono ?_; rintro e w1 ⟨rfl, rfl⟩)
    go_wp2_with fail
    refine (pick A (min n 60) c (fs.take 60) k B (60) d (but.take 60) _ HA.out HB.out hn60 (by decide)).mono ?_
    rintro e w2 ⟨hb2, h⟩
    have A2 := Lib.hid (HA.out.below hb2)
    have B2 := Lib.hid (HB.out.below hb2)
    have BL2 := Lib.hid hb2
    clear hb2
    rcases h with ⟨hno, rfl⟩ | ⟨q, S', g, rfl, hq, hS', rfl, hg, hr⟩
    · have NO := Lib.hid hno
      clear hno
      go_wp2_with fail
      refine (refPick A (min n 60) c (fs.take 60) k B (60) d (but.take 60) _ A2.out B2.out hn60 (by decide) S HS.out).mono ?_
      rintro e w3 ⟨hb3, h⟩
      have BL3 := Lib.hid (BL2.out.trans (hb3.mono BL2.out.size))
      clear hb3
      rcases h with ⟨_, g2, cc, rfl⟩ | ⟨q, g2, cc, rfl, hq, _⟩
      · go_wp2_with fail
        refine (awake14 _).mono ?_
        rintro e w4 ⟨rfl, hb4⟩
        have BL4 := Lib.hid (BL3.out.trans (hb4.mono BL3.out.size))
        clear hb4
        go_wp2_with fail
        refine (same none (some ⟨g2, 0, none⟩) 0 0 0 cc [] [] _ (IntsIn.nil _ _) (IntsIn.nil _ _) (by decide) (by decide)).mono ?_
        rintro e w5 ⟨rfl, hb5⟩
        have BL5 := Lib.hid (BL4.out.trans (hb5.mono BL4.out.size))
        clear hb5
        go_wp2_with fail
        go_ret
        exact ⟨rfl, BL5.out⟩
      · exact absurd ⟨by omega, by omega⟩ NO.out
    · obtain rfl := hS'.one HS.out
      have hql : q ≤ S'.length := by rw [HSL.out]; exact hq
      have hq100 : q ≤ 100 := by omega
      have HQ := Lib.hid hq
      have I2 := Lib.hid (show IntsIn w2 (some ⟨g, 0, none⟩) q (S'.take q) by
        have h := hr.ints
        rw [List.length_take, show min q S'.length = q by omega] at h
        exact h)
      clear hS' hr hg hq
      go_wp2_with fail
      refine (refPick A (min n 60) c (fs.take 60) q B (60) d (but.take 60) _ A2.out B2.out hn60 (by decide) S' HS.out).mono ?_
      rintro e w3 ⟨hb3, h⟩
      have BL3 := Lib.hid (BL2.out.trans (hb3.mono BL2.out.size))
      have I3 := Lib.hid (I2.out.below hb3)
      clear hb3
      rcases h with ⟨hno, _⟩ | ⟨q', g2, cc, hqq, hq', rfl, hi2⟩
      · exact absurd ⟨by omega, by have := HQ.out; omega⟩ hno
      · obtain rfl : q' = q := by omega
        have J3 := Lib.hid hi2
        clear hi2 hqq hq'
        go_wp2_with fail
        refine (awake14 _).mono ?_
        rintro e w4 ⟨rfl, hb4⟩
        have BL4 := Lib.hid (BL3.out.trans (hb4.mono BL3.out.size))
        have I4 := Lib.hid (I3.out.below hb4)
        have J4 := Lib.hid (J3.out.below hb4)
        clear hb4
        go_wp2_with fail
        refine (same (some ⟨g, 0, none⟩) (some ⟨g2, 0, none⟩) q' q' q' cc (S'.take q') (S'.take q') _ I4.out J4.out (by omega) (by omega)).mono ?_
        rintro e w5 ⟨rfl, hb5⟩
        have BL5 := Lib.hid (BL4.out.trans (hb5.mono BL4.out.size))
        clear hb5
        rw [show decide (S'.take q' = S'.take q') = true by simp]
        go_wp2_with fail
        go_ret
        exact ⟨rfl, BL5.out⟩

  · have d6 : decide ((60 : Int) < m) = false := by simp; omega
    have e6 : min m 60 = m := by omega
    have HB := Lib.hid (show IntsIn w B m (but.take 60) by have h := HB0.out.take 60; rwa [e6] at h)
    have hm6 : m ≤ 1000000 := by omega
    clear e6
    go_upto_region 4 with (go_at_call 7; refine (few A n c _ hn hc63).mono ?_; rintro e w1 ⟨rfl, rfl⟩)
    go_wp2_with fail
    refine (pick A (min n 60) c (fs.take 60) k B (m) d (but.take 60) _ HA.out HB.out hn60 hm63).mono ?_
    rintro e w2 ⟨hb2, h⟩
    have A2 := Lib.hid (HA.out.below hb2)
    have B2 := Lib.hid (HB.out.below hb2)
    have BL2 := Lib.hid hb2
    clear hb2
    rcases h with ⟨hno, rfl⟩ | ⟨q, S', g, rfl, hq, hS', rfl, hg, hr⟩
    · have NO := Lib.hid hno
      clear hno
      go_wp2_with fail
      refine (refPick A (min n 60) c (fs.take 60) k B (m) d (but.take 60) _ A2.out B2.out hn60 hm6 S HS.out).mono ?_
      rintro e w3 ⟨hb3, h⟩
      have BL3 := Lib.hid (BL2.out.trans (hb3.mono BL2.out.size))
      clear hb3
      rcases h with ⟨_, g2, cc, rfl⟩ | ⟨q, g2, cc, rfl, hq, _⟩
      · go_wp2_with fail
        refine (awake14 _).mono ?_
        rintro e w4 ⟨rfl, hb4⟩
        have BL4 := Lib.hid (BL3.out.trans (hb4.mono BL3.out.size))
        clear hb4
        go_wp2_with fail
        refine (same none (some ⟨g2, 0, none⟩) 0 0 0 cc [] [] _ (IntsIn.nil _ _) (IntsIn.nil _ _) (by decide) (by decide)).mono ?_
        rintro e w5 ⟨rfl, hb5⟩
        have BL5 := Lib.hid (BL4.out.trans (hb5.mono BL4.out.size))
        clear hb5
        go_wp2_with fail
        go_ret
        exact ⟨rfl, BL5.out⟩
      · exact absurd ⟨by omega, by omega⟩ NO.out
    · obtain rfl := hS'.one HS.out
      have hql : q ≤ S'.length := by rw [HSL.out]; exact hq
      have hq100 : q ≤ 100 := by omega
      have HQ := Lib.hid hq
      have I2 := Lib.hid (show IntsIn w2 (some ⟨g, 0, none⟩) q (S'.take q) by
        have h := hr.ints
        rw [List.length_take, show min q S'.length = q by omega] at h
        exact h)
      clear hS' hr hg hq
      go_wp2_with fail
      refine (refPick A (min n 60) c (fs.take 60) q B (m) d (but.take 60) _ A2.out B2.out hn60 hm6 S' HS.out).mono ?_
      rintro e w3 ⟨hb3, h⟩
      have BL3 := Lib.hid (BL2.out.trans (hb3.mono BL2.out.size))
      have I3 := Lib.hid (I2.out.below hb3)
      clear hb3
      rcases h with ⟨hno, _⟩ | ⟨q', g2, cc, hqq, hq', rfl, hi2⟩
      · exact absurd ⟨by omega, by have := HQ.out; omega⟩ hno
      · obtain rfl : q' = q := by omega
        have J3 := Lib.hid hi2
        clear hi2 hqq hq'
        go_wp2_with fail
        refine (awake14 _).mono ?_
        rintro e w4 ⟨rfl, hb4⟩
        have BL4 := Lib.hid (BL3.out.trans (hb4.mono BL3.out.size))
        have I4 := Lib.hid (I3.out.below hb4)
        have J4 := Lib.hid (J3.out.below hb4)
        clear hb4
        go_wp2_with fail
        refine (same (some ⟨g, 0, none⟩) (some ⟨g2, 0, none⟩) q' q' q' cc (S'.take q') (S'.take q') _ I4.out J4.out (by omega) (by omega)).mono ?_
        rintro e w5 ⟨rfl, hb5⟩
        have BL5 := Lib.hid (BL4.out.trans (hb5.mono BL4.out.size))
        clear hb5
        rw [show decide (S'.take q' = S'.take q') = true by simp]
        go_wp2_with fail
        go_ret
        exact ⟨rfl, BL5.out⟩

end Go.Proofs.Ytjeccacacecdfaa
