/- The law PlaceMore returns true on values. No condition beyond those that each theorem states. -/
import Derived.Test.YtjeccacacecdfaaPM1
import Derived.Deep.RegionLaw
namespace Go.Proofs.Ytjeccacacecdfaa
open Go.RowKit Go.Shelf Go.Maps

theorem IntsIn.src {w : World} {A : Option Addr} {n : Nat} {l : List Int} (h : IntsIn w A n l) : SrcAt w A n (intVs l) := by
  obtain ⟨h1, h2⟩ := h
  rcases h2 with h0 | ⟨b, off, hA, _, hc⟩
  · subst h0
    have hl : l = [] := List.eq_nil_of_length_eq_zero h1
    subst hl
    exact .inl ⟨rfl, rfl⟩
  · refine .inr ⟨b, off, hA, fun j u hu => ?_⟩
    simp only [intVs, List.getElem?_map] at hu
    cases hl : l[j]? with
    | none => rw [hl] at hu; cases hu
    | some x =>
      rw [hl] at hu
      cases hu
      exact hc j x hl
theorem IntsIn.none_ {w : World} {A : Option Addr} {n : Nat} {l : List Int} (h : IntsIn w A n l) (hA : A = none) : n = 0 := by
  rcases h.2 with h0 | ⟨b, off, hA', _⟩
  · exact h0
  · rw [hA] at hA'
    cases hA'
theorem intVs_one (l : List Int) : ∀ u ∈ intVs l, u.oneCell' = true := by
  intro u hu
  simp only [intVs, List.mem_map] at hu
  obtain ⟨x, _, rfl⟩ := hu
  rfl
theorem own_made1 (W : World) {base g : Nat} (t : TypeId) (size : Nat) (hg : g = W.heap.size) (h : base ≤ g) : (W.alloc (.cells #[] t)).ownsRow base t size (.slice (some ⟨g, 0, none⟩) 0 0) 0 [] := by
  subst hg
  exact ⟨by simp, .inr ⟨_, 0, #[], rfl, h, heap_alloc_new _ _, Nat.le_refl _, by simp [maxLen], by simp, by simp⟩⟩
theorem ints_of_own {w : World} {base g n cap : Nat} {l : List Int} (h : w.ownsRow base 3 1 (.slice (some ⟨g, 0, none⟩) n cap) n (intVs l)) (hl : l.length = n) : IntsIn w (some ⟨g, 0, none⟩) n l := by
  have := (RowAt.of_own h).ints
  rw [hl] at this
  exact this

section
variable {w w5 : World} {t : TypeId} {size : Nat} {c : Value}
theorem drew_of {B : Nat} {w w' : World} (h : Below B w w') : Below B w w'.drew := ⟨h.os, h.tape, h.output, h.size, h.block⟩
theorem below_a1 (w : World) (o : Obj) : Below w.heap.size w (w.alloc o).drew := drew_of ((Below.refl _ w).alloc (Nat.le_refl _) o)
theorem below_a2 (w : World) (o p : Obj) : Below w.heap.size w ((w.alloc o).alloc p).drew := drew_of (((Below.refl _ w).alloc (Nat.le_refl _) o).alloc (by simp) p)
theorem own_d1 (w : World) (t : TypeId) (size : Nat) : (w.alloc (.cells #[] t)).drew.ownsRow w.heap.size t size (.slice (some ⟨w.heap.size, 0, none⟩) 0 0) 0 [] := own_made1 w t size rfl (Nat.le_refl _)
theorem own_d2 (w : World) (t : TypeId) (size : Nat) (o : Obj) : ((w.alloc (.cells #[] t)).alloc o).drew.ownsRow w.heap.size t size (.slice (some ⟨w.heap.size, 0, none⟩) 0 0) 0 [] := (own_made1 w t size rfl (Nat.le_refl _)).alloc o
theorem own_d3 (w : World) (t : TypeId) (size : Nat) (o : Obj) : ((w.alloc o).alloc (.cells #[] t)).drew.ownsRow w.heap.size t size (.slice (some ⟨w.heap.size + 1, 0, none⟩) 0 0) 0 [] := own_made1 (w.alloc o) t size (by simp) (by omega)
theorem grown_d1 {o : Obj} (h : (w.alloc o).drew.grownBy w5 (some w.heap.size)) : Below w.heap.size w w5 := (below_a1 w o).grown h (by show w.heap.size ≤ (w.alloc o).heap.size; simp) (fun y hy => by injection hy; omega)
theorem grown_d2 {o p : Obj} (h : ((w.alloc o).alloc p).drew.grownBy w5 (some w.heap.size)) : Below w.heap.size w w5 := (below_a2 w o p).grown h (by show w.heap.size ≤ ((w.alloc o).alloc p).heap.size; simp; omega) (fun y hy => by injection hy; omega)
theorem grown_d3 {o p : Obj} (h : ((w.alloc o).alloc p).drew.grownBy w5 (some (w.heap.size + 1))) : Below w.heap.size w w5 := (below_a2 w o p).grown h (by show w.heap.size ≤ ((w.alloc o).alloc p).heap.size; simp; omega) (fun y hy => by injection hy; omega)
theorem src_cell {g : Nat} (h : w5.cell? ⟨g, 0, none⟩ = some c) : SrcAt w5 (some ⟨g, 0, none⟩) 1 [c] := .inr ⟨g, 0, rfl, fun j u hu => by
  cases j with
  | zero =>
    cases hu
    exact h
  | succ j => simp at hu⟩
theorem src_k2 (h : ((w.alloc (.cells #[] t)).alloc (.cells #[c] t)).drew.grownBy w5 (some w.heap.size)) : SrcAt w5 (some ⟨w.heap.size + 1, 0, none⟩) 1 [c] := by
  refine src_cell ((World.cell?_of_block (h.block _ (by show w.heap.size + 1 < ((w.alloc _).alloc _).heap.size; simp) (by simp))).trans ?_)
  have e : (w.alloc (.cells #[] t)).heap.size = w.heap.size + 1 := by simp
  rw [← e]
  exact World.cell_fresh0 (w.alloc (.cells #[] t)) #[c] t
theorem src_k3 (h : ((w.alloc (.cells #[c] t)).alloc (.cells #[] t)).drew.grownBy w5 (some (w.heap.size + 1))) : SrcAt w5 (some ⟨w.heap.size, 0, none⟩) 1 [c] := by
  refine src_cell ((World.cell?_of_block (h.block _ (by show w.heap.size < ((w.alloc _).alloc _).heap.size; simp; omega) (by simp))).trans ?_)
  exact (World.cell?_alloc_old (w.alloc (.cells #[c] t)) (.cells #[] t) ⟨w.heap.size, 0, none⟩ (by simp)).trans (World.cell_fresh0 w #[c] t)
end
theorem intVs_snoc (l : List Int) (c : Int) : intVs (l ++ [c]) = intVs l ++ [.int .i64 c] := by simp [intVs]
theorem pick_more (A : Option Addr) (n c : Nat) (l : List (Int × Int)) (q : Nat) (X : Option Addr) (m d : Nat) (bs : List Int) (cc : Int) (w : World) (S : List Int) (hA : FreesIn w A n l) (hX : IntsIn w X m (bs ++ [cc])) (hn : n ≤ 100) (hm : m ≤ 9223372036854775807) (hS : Ranked (metM l bs) S) (hc : S[q]? = some cc) :
    Calls Try.prog 8 #[.slice A n c, .int .i64 q, .slice X m d] w fun e w' => Below w.heap.size w w' ∧ ∃ g, e = .returned (.tuple #[.slice (some ⟨g, 0, none⟩) q q, .bool true]) ∧ IntsIn w' (some ⟨g, 0, none⟩) q (S.take q) := by
  refine (pick A n c l q X m d (bs ++ [cc]) w hA hX hn hm).mono ?_
  rintro e w2 ⟨hb, h⟩
  refine ⟨hb, ?_⟩
  have hT0 : Ranked (metM l (bs ++ [cc])) (S.filter fun x => !(x == cc)) := by
    have e1 : metM l (bs ++ [cc]) = (metM l bs).filter (notC cc) := metK_more l bs cc _
    rw [e1]
    exact hS.without cc
  have h0 := (more_law hS hc hT0).2
  have hl0 : (S.filter fun x => !(x == cc)).length = (metM l (bs ++ [cc])).length := by have := hT0.perm.length_eq; simpa using this
  rcases h with ⟨hno, rfl⟩ | ⟨q', T, g, hq, hq', hT, rfl, hg, hr⟩
  · exact absurd ⟨by omega, by omega⟩ hno
  · obtain rfl : q' = q := by omega
    obtain rfl := hT.one hT0
    refine ⟨g, rfl, ?_⟩
    have h2 := hr.ints
    rw [(more_law hS hc hT).1, List.length_take] at h2
    have hqs : q' < S.length := (List.getElem?_eq_some_iff.1 hc).1
    rwa [show min q' S.length = q' by omega] at h2
theorem same_self (A B : Option Addr) (n c m d : Nat) (l : List Int) (w : World) (ha : IntsIn w A n l) (hb : IntsIn w B m l) (hn : n ≤ 1000000) (hm : m ≤ 9223372036854775807) :
    Calls Try.prog 11 #[.slice A n c, .slice B m d] w fun e w' => e = .returned (.bool true) ∧ Below w.heap.size w w' :=
  (same A B n c m d l l w ha hb hn hm).mono fun _ _ ⟨h1, h2⟩ => ⟨h1.trans (bool_val (by simp)), h2⟩

set_option maxRecDepth 100000 in
set_option maxHeartbeats 8000000 in
theorem placeMore_walk (A : Option Addr) (n c : Nat) (fs : List (Int × Int)) (x : Nat) (B : Option Addr) (m d : Nat) (but : List Int) (w : World) (hA : FreesIn w A n fs) (hB : IntsIn w B m but) (hn : n ≤ c) (hc : c ≤ maxLen) (hm : m ≤ d) (hd : d ≤ maxLen) (hx : x ≤ 255) :
    Calls Try.prog 5 #[.slice A n c, .int .u8 x, .slice B m d] w fun e w' => e = .returned (.bool true) ∧ Below w.heap.size w w' := by
  have HA := Lib.hid (hA.take 60)
  have HB0 := Lib.hid hB
  obtain ⟨i0, hi0, hz0, hz1, hz2⟩ := info_parts mint_info
  have hc63 : c ≤ 9223372036854775807 := by simp only [maxLen] at hc; omega
  have hm63 : m ≤ 9223372036854775807 := by simp only [maxLen] at hd; omega
  have hn60 : min n 60 ≤ 100 := by omega
  obtain ⟨K, hK, hK16⟩ : ∃ K : Nat, (x : Int) % 16 = (K : Int) ∧ K < 16 := ⟨x % 16, by omega, by omega⟩
  generalize fs.take 60 = l at *
  clear hA hB hc hd
  go_enter Try.func5, Try.ntmps5
  by_cases h60 : 60 < m
  · skip
    have d6 : decide ((60 : Int) < m) = true := by simp; omega
    have e6 : min m 60 = 60 := by omega
    have HB := Lib.hid (show IntsIn w B 60 (but.take 60) by have h := HB0.out.take 60; rwa [e6] at h)
    have h60d : 60 ≤ d := by omega
    have hM : 60 ≤ 60 := by omega
    clear e6
    generalize but.take 60 = bs at *
    go_upto_region 4 with (go_at_call 7; refine (few A n c _ hn hc63).mono ?_; rintro e w1 ⟨rfl, rfl⟩)
    clear HB0
    go_wp2_with fail
    refine (pick A (min n 60) c l K B 60 d bs _ HA.out HB.out hn60 (by omega)).mono ?_
    rintro e w2 ⟨hb2, h⟩
    have A2 := Lib.hid (HA.out.below hb2)
    have B2 := Lib.hid (HB.out.below hb2)
    have BL2 := Lib.hid hb2
    clear hb2
    by_cases hq : (metM l bs).length < K + 1
    · rcases h with ⟨hno, rfl⟩ | ⟨q, S, g, hqK, hq', hS, rfl, hg, hr⟩
      · go_wp2_with fail
        refine (pick A (min n 60) c l ((K : Int) + 1) B 60 d bs _ A2.out B2.out hn60 (by omega)).mono ?_
        rintro e w3 ⟨hb3, h⟩
        have BL3 := Lib.hid (BL2.out.trans (hb3.mono BL2.out.size))
        clear hb3
        rcases h with ⟨hno, rfl⟩ | ⟨q, S, g, hqK, hq', hS, rfl, hg, hr⟩
        · go_wp2_with (go_at_call 10; refine (awake14 _).mono ?_; rintro e w4 ⟨rfl, hb4⟩; have BL4 := Lib.hid (BL3.out.trans (hb4.mono BL3.out.size)); clear hb4)
          go_ret
          exact ⟨rfl, BL4.out⟩
        · exact absurd hq' (by omega)
      · obtain rfl : q = K := by omega
        clear hS hr hqK hq' hg
        go_wp2_with fail
        refine (pick A (min n 60) c l ((q : Int) + 1) B 60 d bs _ A2.out B2.out hn60 (by omega)).mono ?_
        rintro e w3 ⟨hb3, h⟩
        have BL3 := Lib.hid (BL2.out.trans (hb3.mono BL2.out.size))
        clear hb3
        rcases h with ⟨hno, rfl⟩ | ⟨q', S', g', hqK, hq', hS, rfl, hg, hr⟩
        · go_wp2_with (go_at_call 10; refine (awake14 _).mono ?_; rintro e w4 ⟨rfl, hb4⟩; have BL4 := Lib.hid (BL3.out.trans (hb4.mono BL3.out.size)); clear hb4)
          go_ret
          exact ⟨rfl, BL4.out⟩
        · exact absurd hq' (by omega)
    · rcases h with ⟨hno, rfl⟩ | ⟨q, S, g, hqK, hq', hS, rfl, hg, hr⟩
      · exact absurd ⟨by omega, by omega⟩ hno
      · obtain rfl : q = K := by omega
        have hSl : S.length = (metM l bs).length := by have := hS.perm.length_eq; simpa using this
        have HS := Lib.hid hS
        have hql : q + 1 ≤ S.length := by omega
        have I2 := Lib.hid (show IntsIn w2 (some ⟨g, 0, none⟩) q (S.take q) by
          have h := hr.ints
          rw [List.length_take, show min q S.length = q by omega] at h
          exact h)
        have HSL := Lib.hid hSl
        have HQ := Lib.hid hq
        clear hS hr hqK hq' hg hSl hq
        go_wp2_with fail
        refine (pick A (min n 60) c l ((q : Int) + 1) B 60 d bs _ A2.out B2.out hn60 (by omega)).mono ?_
        rintro e w3 ⟨hb3, h⟩
        have A3 := Lib.hid (A2.out.below hb3)
        have B3 := Lib.hid (B2.out.below hb3)
        have I3 := Lib.hid (I2.out.below hb3)
        have BL3 := Lib.hid (BL2.out.trans (hb3.mono BL2.out.size))
        clear hb3
        rcases h with ⟨hno, rfl⟩ | ⟨q', S', g', hqK, hq', hS, rfl, hg, hr⟩
        · exact absurd ⟨by omega, by have := HQ.out; omega⟩ hno
        · obtain rfl : q' = q + 1 := by omega
          obtain rfl := hS.one HS.out
          obtain ⟨cc, hcc⟩ : ∃ cc, S'[q]? = some cc := ⟨_, List.getElem?_eq_getElem (by omega)⟩
          have HCC := Lib.hid hcc
          have J3 := Lib.hid (show IntsIn w3 (some ⟨g', 0, none⟩) q (S'.take q) by
            have h := (rowAt_take (q := q) hr (by rw [List.length_take]; omega)).ints
            rw [List.take_take, List.length_take, show min q (q + 1) = q by omega, show min q S'.length = q by omega] at h
            exact h)
          have hcell : w3.cell? ⟨g', q, none⟩ = some (.int .i64 cc) := hr.cell (by simp [intVs, hcc])
          have hgl := hr.size
          clear hS hr hqK hq' hg hcc
          go_wp2_with fail
          refine (same_self (some ⟨g', 0, none⟩) (some ⟨g, 0, none⟩) q (q + 1) q q (S'.take q) _ J3.out I3.out (by omega) (by omega)).mono ?_
          rintro e w4 ⟨rfl, hb4⟩
          have BL4 := Lib.hid (BL3.out.trans (hb4.mono BL3.out.size))
          have A4 := Lib.hid (A3.out.below hb4)
          have B4 := Lib.hid (B3.out.below hb4)
          have I4 := Lib.hid (I3.out.below hb4)
          have hcell4 := (hb4.cell (p := ⟨g', q, none⟩) hgl).trans hcell
          have hgl4 := Nat.lt_of_lt_of_le hgl hb4.size
          clear hb4 hcell hgl J3
          have hq16 : q < 16 := hK16
          have hqi : (q : Int) < (q : Int) + 1 := by omega
          have hqd : decide ((q : Int) < (q : Int) + 1) = true := by simpa using hqi
          clear hK16 BL2 BL3 A2 A3 B2 B3 I2 I3 HSL HQ HA HB
          go_upto_region 11 with fail
          clear hK d6 h60 hn hm hx
          go_region_law (first
            | (refine step_append_src _ rfl (.tmp 71) (.tmp 72) 23 rfl w4.heap.size 3 i0 _ 1 8 Try.underlying23 hi0 hz0 hz1 hz2 rfl (by omega) _ 0 [] rfl (by first | exact own_d1 w4 _ 1 | exact own_d2 w4 _ 1 _ | exact own_d3 w4 _ 1 _) B 60 d (intVs bs) rfl (by rw [intVs_length, B4.out.1, Nat.mul_one]) B4.out.none_ (by first | exact (B4.out.below (below_a1 w4 _)).src | exact (B4.out.below (below_a2 w4 _ _)).src) (intVs_one bs) (by simp only [maxLen]; omega) (by omega) (by simp <;> omega) ?_
               intro v5 w5 hown5 hgr5 hat5
               have O5 := Lib.hid (show w5.ownsRow w4.heap.size 3 1 v5 60 (intVs bs) by simpa using hown5)
               have C5 := Lib.hid (show Below w4.heap.size w4 w5 by first | exact grown_d1 hgr5 | exact grown_d2 hgr5 | exact grown_d3 hgr5)
               have K5 := (C5.out.cell (p := ⟨g', q, none⟩) hgl4).trans hcell4
               have X5 := Lib.hid hgr5
               clear hown5 hgr5 hat5)
            | (refine step_append_form _ rfl (.tmp 73) (.tmp 78) 23 rfl w4.heap.size 3 i0 _ 1 8 Try.underlying23 hi0 hz0 hz1 hz2 rfl (by omega) _ 60 (intVs bs) rfl (by first | exact O5.out | exact O5.out.alloc _) (some ⟨_, 0, none⟩) 1 1 [.int .i64 cc] rfl rfl (fun e => by cases e) (by first | exact src_new _ _ _ _ | exact src_k2 X5.out | exact src_k3 X5.out) (by intro u hu; simp only [List.mem_cons, List.not_mem_nil, or_false] at hu; subst hu; rfl) (by omega) (by simp only [maxLen]; omega) (by omega) (by first | exact C5.out.size | (simp; have := C5.out.size; omega)) ?_
               intro g6 cap6 w6 hown6 hgr6 hat6 hlt6
               have J6 := Lib.hid (ints_of_own (l := bs ++ [cc]) (by rw [intVs_snoc]; exact hown6) (by rw [List.length_append, B4.out.1]; rfl))
               have C6 := Lib.hid (show Below w4.heap.size w4 w6 by first | exact C5.out.grown hgr6 C5.out.size (fun y hy => (O5.out.lt y hy).1) | exact (C5.out.alloc C5.out.size _).grown hgr6 (by simp <;> (have := C5.out.size; omega)) (fun y hy => (O5.out.lt y hy).1))
               have A6 := Lib.hid (A4.out.below C6.out)
               have BL6 := Lib.hid (BL4.out.trans (C6.out.mono BL4.out.size))
               have I6 := Lib.hid (I4.out.below C6.out)
               clear hown6 hgr6 hat6 hlt6 O5 X5)
            | (go_simp; go_at_call 8
               refine (pick_more A (min n 60) c l q (some ⟨g6, 0, none⟩) _ _ bs cc _ S' A6.out (by exact J6.out) hn60 (by omega) HS.out HCC.out).mono ?_
               rintro e w7 ⟨hb7, g7, rfl, hi7⟩
               have BL7 := Lib.hid (BL6.out.trans (hb7.mono BL6.out.size))
               have I7 := Lib.hid (I6.out.below hb7)
               have J7 := Lib.hid hi7
               clear hb7 hi7))
          all_goals
            go_wp2_with fail
            refine (awake14 _).mono ?_
            rintro e w8 ⟨rfl, hb8⟩
            have BL8 := Lib.hid (BL7.out.trans (hb8.mono BL7.out.size))
            have I8 := Lib.hid (I7.out.below hb8)
            have J8 := Lib.hid (J7.out.below hb8)
            clear hb8
            go_wp2_with fail
            refine (same_self (some ⟨g7, 0, none⟩) (some ⟨g, 0, none⟩) q q q q (S'.take q) _ J8.out I8.out (by omega) (by omega)).mono ?_
            rintro e w9 ⟨rfl, hb9⟩
            have BL9 := Lib.hid (BL8.out.trans (hb9.mono BL8.out.size))
            clear hb9
            go_wp2_with fail
            go_ret
            exact ⟨rfl, BL9.out⟩
  · skip
    have d6 : decide ((60 : Int) < m) = false := by simp; omega
    have e6 : min m 60 = m := by omega
    have HB := Lib.hid (show IntsIn w B m (but.take 60) by have h := HB0.out.take 60; rwa [e6] at h)
    have hM : m ≤ 60 := by omega
    clear e6
    generalize but.take 60 = bs at *
    go_upto_region 4 with (go_at_call 7; refine (few A n c _ hn hc63).mono ?_; rintro e w1 ⟨rfl, rfl⟩)
    clear HB0
    go_wp2_with fail
    refine (pick A (min n 60) c l K B m d bs _ HA.out HB.out hn60 (by omega)).mono ?_
    rintro e w2 ⟨hb2, h⟩
    have A2 := Lib.hid (HA.out.below hb2)
    have B2 := Lib.hid (HB.out.below hb2)
    have BL2 := Lib.hid hb2
    clear hb2
    by_cases hq : (metM l bs).length < K + 1
    · rcases h with ⟨hno, rfl⟩ | ⟨q, S, g, hqK, hq', hS, rfl, hg, hr⟩
      · go_wp2_with fail
        refine (pick A (min n 60) c l ((K : Int) + 1) B m d bs _ A2.out B2.out hn60 (by omega)).mono ?_
        rintro e w3 ⟨hb3, h⟩
        have BL3 := Lib.hid (BL2.out.trans (hb3.mono BL2.out.size))
        clear hb3
        rcases h with ⟨hno, rfl⟩ | ⟨q, S, g, hqK, hq', hS, rfl, hg, hr⟩
        · go_wp2_with (go_at_call 10; refine (awake14 _).mono ?_; rintro e w4 ⟨rfl, hb4⟩; have BL4 := Lib.hid (BL3.out.trans (hb4.mono BL3.out.size)); clear hb4)
          go_ret
          exact ⟨rfl, BL4.out⟩
        · exact absurd hq' (by omega)
      · obtain rfl : q = K := by omega
        clear hS hr hqK hq' hg
        go_wp2_with fail
        refine (pick A (min n 60) c l ((q : Int) + 1) B m d bs _ A2.out B2.out hn60 (by omega)).mono ?_
        rintro e w3 ⟨hb3, h⟩
        have BL3 := Lib.hid (BL2.out.trans (hb3.mono BL2.out.size))
        clear hb3
        rcases h with ⟨hno, rfl⟩ | ⟨q', S', g', hqK, hq', hS, rfl, hg, hr⟩
        · go_wp2_with (go_at_call 10; refine (awake14 _).mono ?_; rintro e w4 ⟨rfl, hb4⟩; have BL4 := Lib.hid (BL3.out.trans (hb4.mono BL3.out.size)); clear hb4)
          go_ret
          exact ⟨rfl, BL4.out⟩
        · exact absurd hq' (by omega)
    · rcases h with ⟨hno, rfl⟩ | ⟨q, S, g, hqK, hq', hS, rfl, hg, hr⟩
      · exact absurd ⟨by omega, by omega⟩ hno
      · obtain rfl : q = K := by omega
        have hSl : S.length = (metM l bs).length := by have := hS.perm.length_eq; simpa using this
        have HS := Lib.hid hS
        have hql : q + 1 ≤ S.length := by omega
        have I2 := Lib.hid (show IntsIn w2 (some ⟨g, 0, none⟩) q (S.take q) by
          have h := hr.ints
          rw [List.length_take, show min q S.length = q by omega] at h
          exact h)
        have HSL := Lib.hid hSl
        have HQ := Lib.hid hq
        clear hS hr hqK hq' hg hSl hq
        go_wp2_with fail
        refine (pick A (min n 60) c l ((q : Int) + 1) B m d bs _ A2.out B2.out hn60 (by omega)).mono ?_
        rintro e w3 ⟨hb3, h⟩
        have A3 := Lib.hid (A2.out.below hb3)
        have B3 := Lib.hid (B2.out.below hb3)
        have I3 := Lib.hid (I2.out.below hb3)
        have BL3 := Lib.hid (BL2.out.trans (hb3.mono BL2.out.size))
        clear hb3
        rcases h with ⟨hno, rfl⟩ | ⟨q', S', g', hqK, hq', hS, rfl, hg, hr⟩
        · exact absurd ⟨by omega, by have := HQ.out; omega⟩ hno
        · obtain rfl : q' = q + 1 := by omega
          obtain rfl := hS.one HS.out
          obtain ⟨cc, hcc⟩ : ∃ cc, S'[q]? = some cc := ⟨_, List.getElem?_eq_getElem (by omega)⟩
          have HCC := Lib.hid hcc
          have J3 := Lib.hid (show IntsIn w3 (some ⟨g', 0, none⟩) q (S'.take q) by
            have h := (rowAt_take (q := q) hr (by rw [List.length_take]; omega)).ints
            rw [List.take_take, List.length_take, show min q (q + 1) = q by omega, show min q S'.length = q by omega] at h
            exact h)
          have hcell : w3.cell? ⟨g', q, none⟩ = some (.int .i64 cc) := hr.cell (by simp [intVs, hcc])
          have hgl := hr.size
          clear hS hr hqK hq' hg hcc
          go_wp2_with fail
          refine (same_self (some ⟨g', 0, none⟩) (some ⟨g, 0, none⟩) q (q + 1) q q (S'.take q) _ J3.out I3.out (by omega) (by omega)).mono ?_
          rintro e w4 ⟨rfl, hb4⟩
          have BL4 := Lib.hid (BL3.out.trans (hb4.mono BL3.out.size))
          have A4 := Lib.hid (A3.out.below hb4)
          have B4 := Lib.hid (B3.out.below hb4)
          have I4 := Lib.hid (I3.out.below hb4)
          have hcell4 := (hb4.cell (p := ⟨g', q, none⟩) hgl).trans hcell
          have hgl4 := Nat.lt_of_lt_of_le hgl hb4.size
          clear hb4 hcell hgl J3
          have hq16 : q < 16 := hK16
          have hqi : (q : Int) < (q : Int) + 1 := by omega
          have hqd : decide ((q : Int) < (q : Int) + 1) = true := by simpa using hqi
          clear hK16 BL2 BL3 A2 A3 B2 B3 I2 I3 HSL HQ HA HB
          go_upto_region 11 with fail
          clear hK d6 h60 hn hm hx
          go_region_law (first
            | (refine step_append_src _ rfl (.tmp 71) (.tmp 72) 23 rfl w4.heap.size 3 i0 _ 1 8 Try.underlying23 hi0 hz0 hz1 hz2 rfl (by omega) _ 0 [] rfl (by first | exact own_d1 w4 _ 1 | exact own_d2 w4 _ 1 _ | exact own_d3 w4 _ 1 _) B m d (intVs bs) rfl (by rw [intVs_length, B4.out.1, Nat.mul_one]) B4.out.none_ (by first | exact (B4.out.below (below_a1 w4 _)).src | exact (B4.out.below (below_a2 w4 _ _)).src) (intVs_one bs) (by simp only [maxLen]; omega) (by omega) (by simp <;> omega) ?_
               intro v5 w5 hown5 hgr5 hat5
               have O5 := Lib.hid (show w5.ownsRow w4.heap.size 3 1 v5 m (intVs bs) by simpa using hown5)
               have C5 := Lib.hid (show Below w4.heap.size w4 w5 by first | exact grown_d1 hgr5 | exact grown_d2 hgr5 | exact grown_d3 hgr5)
               have K5 := (C5.out.cell (p := ⟨g', q, none⟩) hgl4).trans hcell4
               have X5 := Lib.hid hgr5
               clear hown5 hgr5 hat5)
            | (refine step_append_form _ rfl (.tmp 73) (.tmp 78) 23 rfl w4.heap.size 3 i0 _ 1 8 Try.underlying23 hi0 hz0 hz1 hz2 rfl (by omega) _ m (intVs bs) rfl (by first | exact O5.out | exact O5.out.alloc _) (some ⟨_, 0, none⟩) 1 1 [.int .i64 cc] rfl rfl (fun e => by cases e) (by first | exact src_new _ _ _ _ | exact src_k2 X5.out | exact src_k3 X5.out) (by intro u hu; simp only [List.mem_cons, List.not_mem_nil, or_false] at hu; subst hu; rfl) (by omega) (by simp only [maxLen]; omega) (by omega) (by first | exact C5.out.size | (simp; have := C5.out.size; omega)) ?_
               intro g6 cap6 w6 hown6 hgr6 hat6 hlt6
               have J6 := Lib.hid (ints_of_own (l := bs ++ [cc]) (by rw [intVs_snoc]; exact hown6) (by rw [List.length_append, B4.out.1]; rfl))
               have C6 := Lib.hid (show Below w4.heap.size w4 w6 by first | exact C5.out.grown hgr6 C5.out.size (fun y hy => (O5.out.lt y hy).1) | exact (C5.out.alloc C5.out.size _).grown hgr6 (by simp <;> (have := C5.out.size; omega)) (fun y hy => (O5.out.lt y hy).1))
               have A6 := Lib.hid (A4.out.below C6.out)
               have BL6 := Lib.hid (BL4.out.trans (C6.out.mono BL4.out.size))
               have I6 := Lib.hid (I4.out.below C6.out)
               clear hown6 hgr6 hat6 hlt6 O5 X5)
            | (go_simp; go_at_call 8
               refine (pick_more A (min n 60) c l q (some ⟨g6, 0, none⟩) _ _ bs cc _ S' A6.out (by exact J6.out) hn60 (by omega) HS.out HCC.out).mono ?_
               rintro e w7 ⟨hb7, g7, rfl, hi7⟩
               have BL7 := Lib.hid (BL6.out.trans (hb7.mono BL6.out.size))
               have I7 := Lib.hid (I6.out.below hb7)
               have J7 := Lib.hid hi7
               clear hb7 hi7))
          all_goals
            go_wp2_with fail
            refine (awake14 _).mono ?_
            rintro e w8 ⟨rfl, hb8⟩
            have BL8 := Lib.hid (BL7.out.trans (hb8.mono BL7.out.size))
            have I8 := Lib.hid (I7.out.below hb8)
            have J8 := Lib.hid (J7.out.below hb8)
            clear hb8
            go_wp2_with fail
            refine (same_self (some ⟨g7, 0, none⟩) (some ⟨g, 0, none⟩) q q q q (S'.take q) _ J8.out I8.out (by omega) (by omega)).mono ?_
            rintro e w9 ⟨rfl, hb9⟩
            have BL9 := Lib.hid (BL8.out.trans (hb9.mono BL8.out.size))
            clear hb9
            go_wp2_with fail
            go_ret
            exact ⟨rfl, BL9.out⟩
end Go.Proofs.Ytjeccacacecdfaa
