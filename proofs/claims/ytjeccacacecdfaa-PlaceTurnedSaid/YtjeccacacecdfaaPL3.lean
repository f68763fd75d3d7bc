/- What place.Pick does. No condition beyond those that each theorem states. -/
import Derived.Test.YtjeccacacecdfaaPLs
import Derived.Handy
namespace Go.Proofs.Ytjeccacacecdfaa
open Go.RowKit Go.Shelf Go.Maps

/-- Where a list of cartridges that came in lies. -/
def FreesIn (w : World) (A : Option Addr) (n : Nat) (fs : List (Int × Int)) : Prop :=
  fs.length = n ∧ (n = 0 ∨ ∃ b off, A = some ⟨b, off, none⟩ ∧ b < w.heap.size ∧ ∀ (i : Nat) (c r : Int), fs[i]? = some (c, r) → w.cell? ⟨b, off + i * 2, none⟩ = some (.int .i64 c) ∧ w.cell? ⟨b, off + i * 2 + 1, none⟩ = some (.int .i64 r)) ∧ ∀ p ∈ fs, wfI p.1 ∧ wfI p.2
theorem FreesIn.below {w w' : World} {A : Option Addr} {n : Nat} {fs : List (Int × Int)} (h : FreesIn w A n fs) (hb : Below w.heap.size w w') : FreesIn w' A n fs :=
  ⟨h.1, h.2.1.imp id fun ⟨b, off, h1, h2, h3⟩ => ⟨b, off, h1, Nat.lt_of_lt_of_le h2 hb.size, fun i c r hu => ⟨(hb.cell (p := ⟨b, off + i * 2, none⟩) h2).trans (h3 i c r hu).1, (hb.cell (p := ⟨b, off + i * 2 + 1, none⟩) h2).trans (h3 i c r hu).2⟩⟩, h.2.2⟩

def metS (but : List Int) (E : List (Int × Int)) (f : Int × Int) : List (Int × Int) := if decide (0 < f.2) && (!hasE E f.1 && !inL but f.1) then E ++ [f] else E
def metK (fs : List (Int × Int)) (but : List Int) : Nat → List (Int × Int)
  | 0 => []
  | k + 1 => match fs[k]? with
    | none => metK fs but k
    | some f => metS but (metK fs but k) f
def metM (fs : List (Int × Int)) (but : List Int) : List (Int × Int) := metK fs but fs.length
theorem metK_len (fs : List (Int × Int)) (but : List Int) : ∀ k, (metK fs but k).length ≤ k := by
  intro k
  induction k with
  | zero => simp [metK]
  | succ k ih =>
    unfold metK
    split
    · omega
    · unfold metS
      split
      · rw [List.length_append]; simp; omega
      · omega

def Picked (w : World) (E : List (Int × Int)) (k : Int) (e : Ending) (w' : World) : Prop :=
  Below w.heap.size w w' ∧ ((¬ (0 ≤ k ∧ k ≤ E.length) ∧ e = .returned (.tuple #[.slice none 0 0, .bool false])) ∨
    ∃ (m : Nat) (S : List Int) (g : Nat), k = m ∧ m ≤ E.length ∧ Ranked E S ∧ e = .returned (.tuple #[.slice (some ⟨g, 0, none⟩) m m, .bool true]) ∧ w.heap.size ≤ g ∧ RowAt w' g 3 (intVs (S.take m)))

theorem World.cell?_alloc_old (w : World) (o : Obj) (p : Addr) (h : p.block < w.heap.size) : (w.alloc o).cell? p = w.cell? p := World.cell?_of_block (Below.heap_alloc w o p.block h)
theorem rowAt_take {w : World} {g : Nat} {t : TypeId} {S : List Int} {q : Nat} (h : RowAt w g t (intVs S)) (hq : q ≤ S.length) : RowAt w g t (intVs (S.take q)) := by
  obtain ⟨cs, h1, h2⟩ := h
  refine ⟨cs, h1, ?_⟩
  have e : intVs (S.take q) = (intVs S).take q := by simp [intVs, List.map_take]
  rw [e, ← h2, List.take_take, List.length_take]
  congr 1
  have h3 : (intVs S).length = S.length := intVs_length S
  have h4 : (cs.toList.take (intVs S).length).length = S.length := by rw [h2, h3]
  rw [List.length_take] at h4
  omega
set_option maxRecDepth 100000 in
set_option maxHeartbeats 4000000 in
theorem pick (A : Option Addr) (n c : Nat) (fs : List (Int × Int)) (k : Int) (B : Option Addr) (m d : Nat) (but : List Int) (w : World) (hA : FreesIn w A n fs) (hB : IntsIn w B m but) (hn : n ≤ 100) (hm : m ≤ 9223372036854775807) :
    Calls Try.prog 8 #[.slice A n c, .int .i64 k, .slice B m d] w fun e w' => Picked w (metM fs but) k e w' := by
  have hmm := @run_makeMap Try.prog
  have HA := Lib.hid hA
  have HB := Lib.hid hB
  obtain ⟨i0, hi0, hz0, hz1, hz2⟩ := info_parts mint_info
  have hfl : fs.length = n := hA.1
  have HFL := Lib.hid hfl
  clear hA hB hfl
  go_enter Try.func8, Try.ntmps8
  go_wp2_with fail
  go_loopw [18] (fun i wx => ∃ j : Nat, j ≤ n ∧ i = .int .i64 j ∧ MapAt wx w.heap.size (metK fs but j) ∧ wx.cell? ⟨w.heap.size + 1, 0, none⟩ = some (.map (some w.heap.size)) ∧ w.heap.size + 1 < wx.heap.size ∧ Below w.heap.size w wx) (fun i _ => n - (intOf i).toNat)
  case atStart => exact ⟨0, Nat.zero_le _, rfl, ⟨.map [], ((World.ownsMap_made _ _ _ _).alloc _), Rep.nil⟩, by
    have h := (Blk.made (w.alloc (.map #[] 0)) 36 #[.map (some w.heap.size)]).cell 0
    simp at h ⊢, by simp, ((Below.refl _ _).alloc (Nat.le_refl _) _).alloc (by simp) _⟩
  case round =>
    obtain ⟨j, hj, rfl, hmp, hcl, hsz, hbl⟩ := hrel
    obtain ⟨wo, rfl⟩ : ∃ wo : World, wo = wr := ⟨_, rfl⟩
    have HM := Lib.hid hmp
    have HBL := Lib.hid hbl
    by_cases hlt : j < n
    · have d1 : decide (j < n) = true := by simpa using hlt
      obtain ⟨⟨fc, fr⟩, hf⟩ : ∃ f, fs[j]? = some f := ⟨_, List.getElem?_eq_getElem (by rw [HFL.out]; exact hlt)⟩
      obtain ⟨b, off, rfl, hbw, hcs⟩ := HA.out.2.1.resolve_left (by omega)
      have hwf := HA.out.2.2 _ (List.mem_of_getElem? hf)
      have hk0 := (hbl.cell (p := ⟨b, off + j * 2, none⟩) hbw).trans (hcs j fc fr hf).1
      have hk1 := (hbl.cell (p := ⟨b, off + j * 2 + 1, none⟩) hbw).trans (hcs j fc fr hf).2
      have hbz : b < wo.heap.size := by omega
      have e1 : metK fs but (j + 1) = metS but (metK fs but j) (fc, fr) := by
        conv => lhs; unfold metK
        rw [hf]
      have E1 := Lib.hid e1
      have WF := Lib.hid hwf
      have hE : (metK fs but j).length ≤ j := metK_len fs but j
      clear e1 hwf hcs hf hmp hbl
      generalize metK fs but j = E at *
      obtain ⟨D, ho, hr⟩ := HM.out
      have HO := Lib.hid ho
      have HR := Lib.hid hr
      have hhas := hr.has fc WF.out.1
      clear ho hr
      by_cases p1 : 0 < fr
      · have h1 : decide (0 < fr) = true := by simpa using p1
        cases h2 : hasE E fc with
        | true =>
          rw [h2] at hhas
          cases h3 : inL but fc with
          | true =>
            have e2 : metS but E (fc, fr) = E := by unfold metS; simp [h1, h2, h3]
            rw [e2] at E1
            clear e2
            go_wp2_with (first
              | (at_lookup; refine wpList_lookup_own_ok_int _ rfl (.tmp 23) (.tmp 25) 36 rfl 3 3 .i64 ilaw Try.underlying36 Try.underlying3 (zeroI _) w.heap.size _ D rfl (HO.out.alloc _) _ (.int .i64 fc) rfl (keyOf_int_mk Try.underlying3 WF.out.1) ?_; intro vv hat hwc))
            go_roundw
            case rel => exact ⟨j + 1, hlt, by go_num, by rw [E1.out]; exact HM.out.kept (World.grownBy_alloc _ _ none) (by simp), by rw [World.cell?_alloc_old _ _ _ hsz]; exact hcl, by simp; omega, HBL.out.alloc HBL.out.size _⟩
            case measure => simp [intOf]; omega

          | false =>
            have e2 : metS but E (fc, fr) = E := by unfold metS; simp [h1, h2, h3]
            rw [e2] at E1
            clear e2
            go_wp2_with (first
              | (at_lookup; refine wpList_lookup_own_ok_int _ rfl (.tmp 23) (.tmp 25) 36 rfl 3 3 .i64 ilaw Try.underlying36 Try.underlying3 (zeroI _) w.heap.size _ D rfl (HO.out.alloc _) _ (.int .i64 fc) rfl (keyOf_int_mk Try.underlying3 WF.out.1) ?_; intro vv hat hwc))
            go_roundw
            case rel => exact ⟨j + 1, hlt, by go_num, by rw [E1.out]; exact HM.out.kept (World.grownBy_alloc _ _ none) (by simp), by rw [World.cell?_alloc_old _ _ _ hsz]; exact hcl, by simp; omega, HBL.out.alloc HBL.out.size _⟩
            case measure => simp [intOf]; omega

        | false =>
          rw [h2] at hhas
          cases h3 : inL but fc with
          | true =>
            have e2 : metS but E (fc, fr) = E := by unfold metS; simp [h1, h2, h3]
            rw [e2] at E1
            clear e2
            go_wp2_with (first
              | (at_lookup; refine wpList_lookup_own_ok_int _ rfl (.tmp 23) (.tmp 25) 36 rfl 3 3 .i64 ilaw Try.underlying36 Try.underlying3 (zeroI _) w.heap.size _ D rfl (HO.out.alloc _) _ (.int .i64 fc) rfl (keyOf_int_mk Try.underlying3 WF.out.1) ?_; intro vv hat hwc)
              | (go_at_call 13; go_loud (refine (contains B m d but fc _ (HB.out.below (HBL.out.alloc HBL.out.size _)) hm).mono ?_); rintro e w1 ⟨rfl, rfl⟩; rw [h3]))
            go_roundw
            case rel => exact ⟨j + 1, hlt, by go_num, by rw [E1.out]; exact HM.out.kept (World.grownBy_alloc _ _ none) (by simp), by rw [World.cell?_alloc_old _ _ _ hsz]; exact hcl, by simp; omega, HBL.out.alloc HBL.out.size _⟩
            case measure => simp [intOf]; omega

          | false =>
            have e2 : metS but E (fc, fr) = E ++ [(fc, fr)] := by unfold metS; simp [h1, h2, h3]
            rw [e2] at E1
            clear e2
            go_wp2_with (first
              | (at_lookup; refine wpList_lookup_own_ok_int _ rfl (.tmp 23) (.tmp 25) 36 rfl 3 3 .i64 ilaw Try.underlying36 Try.underlying3 (zeroI _) w.heap.size _ D rfl (HO.out.alloc _) _ (.int .i64 fc) rfl (keyOf_int_mk Try.underlying3 WF.out.1) ?_; intro vv hat hwc)
              | (go_at_call 13; go_loud (refine (contains B m d but fc _ (HB.out.below (HBL.out.alloc HBL.out.size _)) hm).mono ?_); rintro e w1 ⟨rfl, rfl⟩; rw [h3])
              | (at_mapUpdate
                 refine wpList_mapUpdate_own _ rfl _ _ _ 36 rfl 3 3 ilaw Try.underlying36 _ w.heap.size E.length D rfl (HO.out.alloc _) (by unfold maxLen; omega) _ _ (.int .i64 fc) rfl rfl (keyOf_int_mk Try.underlying3 WF.out.1) (.lit (.int .i64 fr)) [] (plainElem_int Try.underlying3 WF.out.2) ?_
                 intro w2 hown2 hg2
                 have M2 := Lib.hid (show MapAt w2 w.heap.size (E ++ [(fc, fr)]) from ⟨_, by rw [List.length_append]; exact hown2, HR.out.put (HO.out.tidy ilaw) WF.out.1 WF.out.2 h2⟩)
                 have G2 := Lib.hid hg2
                 clear hown2 hg2))
            go_roundw
            case rel =>
              have hz2 := G2.out.size
              rw [World.size_alloc] at hz2
              exact ⟨j + 1, hlt, by go_num, by rw [E1.out]; exact M2.out, by
                rw [World.cell?_of_block (a := ⟨w.heap.size + 1, 0, none⟩) (G2.out.block (w.heap.size + 1) (by simp; omega) (fun e => by have := Option.some.inj e; omega)), World.cell?_alloc_old _ _ _ hsz]
                exact hcl, by omega, (HBL.out.alloc HBL.out.size _).grown G2.out (by simp; omega) (fun q hq => by cases hq; exact Nat.le_refl _)⟩
            case measure => simp [intOf]; omega
      · have h1 : decide (0 < fr) = false := by simpa using p1
        cases h2 : hasE E fc with
        | true =>
          rw [h2] at hhas
          cases h3 : inL but fc with
          | true =>
            have e2 : metS but E (fc, fr) = E := by unfold metS; simp [h1, h2, h3]
            rw [e2] at E1
            clear e2
            go_wp2_with (first
              | (at_lookup; refine wpList_lookup_own_ok_int _ rfl (.tmp 23) (.tmp 25) 36 rfl 3 3 .i64 ilaw Try.underlying36 Try.underlying3 (zeroI _) w.heap.size _ D rfl (HO.out.alloc _) _ (.int .i64 fc) rfl (keyOf_int_mk Try.underlying3 WF.out.1) ?_; intro vv hat hwc))
            go_roundw
            case rel => exact ⟨j + 1, hlt, by go_num, by rw [E1.out]; exact HM.out.kept (World.grownBy_alloc _ _ none) (by simp), by rw [World.cell?_alloc_old _ _ _ hsz]; exact hcl, by simp; omega, HBL.out.alloc HBL.out.size _⟩
            case measure => simp [intOf]; omega

          | false =>
            have e2 : metS but E (fc, fr) = E := by unfold metS; simp [h1, h2, h3]
            rw [e2] at E1
            clear e2
            go_wp2_with (first
              | (at_lookup; refine wpList_lookup_own_ok_int _ rfl (.tmp 23) (.tmp 25) 36 rfl 3 3 .i64 ilaw Try.underlying36 Try.underlying3 (zeroI _) w.heap.size _ D rfl (HO.out.alloc _) _ (.int .i64 fc) rfl (keyOf_int_mk Try.underlying3 WF.out.1) ?_; intro vv hat hwc))
            go_roundw
            case rel => exact ⟨j + 1, hlt, by go_num, by rw [E1.out]; exact HM.out.kept (World.grownBy_alloc _ _ none) (by simp), by rw [World.cell?_alloc_old _ _ _ hsz]; exact hcl, by simp; omega, HBL.out.alloc HBL.out.size _⟩
            case measure => simp [intOf]; omega

        | false =>
          rw [h2] at hhas
          cases h3 : inL but fc with
          | true =>
            have e2 : metS but E (fc, fr) = E := by unfold metS; simp [h1, h2, h3]
            rw [e2] at E1
            clear e2
            go_wp2_with (first
              | (at_lookup; refine wpList_lookup_own_ok_int _ rfl (.tmp 23) (.tmp 25) 36 rfl 3 3 .i64 ilaw Try.underlying36 Try.underlying3 (zeroI _) w.heap.size _ D rfl (HO.out.alloc _) _ (.int .i64 fc) rfl (keyOf_int_mk Try.underlying3 WF.out.1) ?_; intro vv hat hwc))
            go_roundw
            case rel => exact ⟨j + 1, hlt, by go_num, by rw [E1.out]; exact HM.out.kept (World.grownBy_alloc _ _ none) (by simp), by rw [World.cell?_alloc_old _ _ _ hsz]; exact hcl, by simp; omega, HBL.out.alloc HBL.out.size _⟩
            case measure => simp [intOf]; omega

          | false =>
            have e2 : metS but E (fc, fr) = E := by unfold metS; simp [h1, h2, h3]
            rw [e2] at E1
            clear e2
            go_wp2_with (first
              | (at_lookup; refine wpList_lookup_own_ok_int _ rfl (.tmp 23) (.tmp 25) 36 rfl 3 3 .i64 ilaw Try.underlying36 Try.underlying3 (zeroI _) w.heap.size _ D rfl (HO.out.alloc _) _ (.int .i64 fc) rfl (keyOf_int_mk Try.underlying3 WF.out.1) ?_; intro vv hat hwc))
            go_roundw
            case rel => exact ⟨j + 1, hlt, by go_num, by rw [E1.out]; exact HM.out.kept (World.grownBy_alloc _ _ none) (by simp), by rw [World.cell?_alloc_old _ _ _ hsz]; exact hcl, by simp; omega, HBL.out.alloc HBL.out.size _⟩
            case measure => simp [intOf]; omega

    · have d1 : decide (j < n) = false := by simpa using hlt
      have ej : metK fs but j = metM fs but := by unfold metM; rw [HFL.out, show j = n by omega]
      rw [ej] at HM
      have hE : (metM fs but).length ≤ 100 := by
        have := metK_len fs but fs.length
        have := HFL.out
        unfold metM
        omega
      clear ej hmp hbl
      generalize hE0 : metM fs but = E at *
      have HE0 := Lib.hid hE0
      clear hE0
      obtain ⟨D, ho, hr⟩ := HM.out
      have HO := Lib.hid ho
      have HR := Lib.hid hr
      have hsz0 := hr.size
      have hln : (Builtin.len_ #[36] 3 #[.map (some w.heap.size)]).run Try.prog wo = .ok (.int .i64 (E.length : Int)) wo := by
        have h := HO.out.len Try.underlying36 3
        rw [hsz0] at h
        exact h
      clear hsz0
      clear ho hr
      by_cases hk0 : k < 0
      · have e1 : ¬ (0 ≤ k ∧ k ≤ E.length) := by omega
        have E1 := Lib.hid e1
        have dk : decide (k < 0) = true := by simpa using hk0
        clear e1
        go_wp2_with fail
        go_ret2
        exact ⟨HBL.out, .inl ⟨by rw [HE0.out]; exact E1.out, rfl⟩⟩
      · obtain ⟨q, rfl⟩ := Int.eq_ofNat_of_zero_le (show 0 ≤ k by omega)
        have dk : decide ((q : Int) < 0) = false := by simp
        by_cases hq : E.length < q
        · have e1 : ¬ (0 ≤ (q : Int) ∧ (q : Int) ≤ E.length) := by omega
          have E1 := Lib.hid e1
          have dq : decide (E.length < q) = true := by simpa using hq
          clear e1
          go_wp2_with fail
          go_ret2
          exact ⟨HBL.out, .inl ⟨by rw [HE0.out]; exact E1.out, rfl⟩⟩
        · have dq : decide (E.length < q) = false := by simpa using hq
          go_wp2_with (first
            | (at_make
               refine wpList_make_own _ rfl _ _ 23 rfl (w.heap.size + 2) 3 i0 (.int .i64 0) 1 Try.underlying23 hi0 hz0 hz1 .i64 .i64 _ E.length rfl rfl rfl (by rw [hz2]; omega) (by unfold maxLen; omega) (by omega) ?_
               intro w1 hown1 hg1
               have RW := Lib.hid hown1
               have G1 := Lib.hid hg1
               have O1 := Lib.hid (HO.out.kept hg1 (by simp))
               have hz1' := hg1.size
               have hcl1 : w1.cell? ⟨w.heap.size + 1, 0, none⟩ = some (.map (some w.heap.size)) := (World.cell?_of_block (a := ⟨w.heap.size + 1, 0, none⟩) (hg1.block _ hsz (by simp))).trans hcl
               clear hown1 hg1)
            | (at_range; refine wpList_range_own _ rfl _ 36 rfl 3 3 ilaw Try.underlying36 _ w.heap.size E.length D rfl O1.out ?_; intro w2 hrg0 hg0 hs0))
          have RG0 := Lib.hid hrg0
          have G0 := Lib.hid hg0
          have HS0 := Lib.hid hs0
          clear hrg0 hg0 hs0
          go_loopw [13] (fun v wr => ∃ (left : Lit → Bool) (cnt : Nat) (ks : List Int) (g cap : Nat), v = .slice (some ⟨g, 0, none⟩) ks.length cap ∧ wr.ranges Try.prog 3 (plainElem Try.prog 3) w.heap.size w1.heap.size E.length D left cnt ∧ ks.length + cnt ≤ E.length ∧ wr.ownsRow (w.heap.size + 2) 3 1 v ks.length (intVs ks) ∧ (∀ x, wfI x → (x ∈ ks ↔ (hasE E x = true ∧ left (.int .i64 x) = false))) ∧ ks.Nodup ∧ (∀ x ∈ ks, wfI x) ∧ wr.cell? ⟨w.heap.size + 1, 0, none⟩ = some (.map (some w.heap.size)) ∧ Below w.heap.size w wr ∧ g ≠ w1.heap.size ∧ w1.heap.size < wr.heap.size) (fun _ wr => wr.rangeLeft w.heap.size w1.heap.size)
          case atStart =>
            have hb1 := HBL.out.grown G1.out (by have := HBL.out.size; omega) (fun q hq => by cases hq)
            have hb2 := hb1.grown G0.out (by have := hb1.size; omega) (fun q hq => by cases hq)
            refine ⟨_, _, [], _, _, rfl, RG0.out, by rw [HR.out.size]; simp, ?_, fun x hx => ?_, by simp, by simp, ?_, hb2, ?_, by rw [HS0.out]; omega⟩
            · exact own_of_eq RW.out (fun g hg => G0.out.block g (RW.out.lt g hg).2 (by simp))
            · rw [HR.out.has x hx]
              simp
            · rw [World.cell?_of_block (a := ⟨w.heap.size + 1, 0, none⟩) (G0.out.block (w.heap.size + 1) (by omega) (by simp))]
              exact hcl1
            · have := (RW.out.lt wo.heap.size rfl).2
              omega
          case round =>
            obtain ⟨left, cnt, ks, g, cap, rfl, hrg, hcnt, hrow, hmem, hnd, hwf, hmb, hbw, hgr, hrz⟩ := hrel
            obtain ⟨wi, rfl⟩ : ∃ wi : World, wi = wr := ⟨_, rfl⟩
            have hgl := hrow.lt g rfl
            have RG := Lib.hid hrg
            have HRW := Lib.hid hrow
            have HME := Lib.hid hmem
            have HND := Lib.hid hnd
            have HWF := Lib.hid hwf
            have HMB := Lib.hid hmb
            have HBW := Lib.hid hbw
            have hwz := hbw.size
            clear hrow hmem hnd hwf hmb hbw
            go_wp2_with (at_next; refine wpList_next_ranges_ii _ rfl _ rfl 3 3 .i64 .i64 ilaw Try.underlying3 Try.underlying3 w.heap.size w1.heap.size E.length _ _ _ rfl RG.out ?_ ?_)
            · intro hc0 hl0
              have hp : ks.Perm (E.map Prod.fst) := by
                refine (List.perm_ext_iff_of_nodup HND.out HR.out.apart).2 fun x => ⟨fun hx => ?_, fun hx => ?_⟩
                · exact hasE_mem.1 ((HME.out x (HWF.out x hx)).1 hx).1
                · obtain ⟨p, hp, rfl⟩ := List.mem_map.1 hx
                  exact (HME.out p.1 (HR.out.wf p hp).1).2 ⟨hasE_mem.2 hx, hl0 _⟩
              have hkl : ks.length = E.length := by have := hp.length_eq; simpa using this
              have hcap := own_cap HRW.out
              have hqc : q ≤ cap := by omega
              have hqk : q ≤ ks.length := by omega
              have HP := Lib.hid hp
              have MA := Lib.hid (show MapAt wi w.heap.size E from ⟨D, RG.out.owns, HR.out⟩)
              have HKL := Lib.hid hkl
              clear hp hcap hkl hl0 hrg
              go_wp2_with (first
                | (go_at_call 14
                   refine (sortKeys w.heap.size (w.heap.size + 1) g cap (w.heap.size + 2) E ks _ MA.out HMB.out (by omega) (by omega) (by omega) HRW.out HWF.out HP.out (by omega)).mono ?_
                   rintro e w5 ⟨rfl, S, hS, hSl, hr5, hg5⟩
                   have RS := Lib.hid hS
                   have R5 := Lib.hid hr5
                   have G5 := Lib.hid hg5
                   have L5 := Lib.hid hSl
                   clear hS hr5 hg5 hSl)
                | (go_at_call 18; refine (clip g q cap _ hqc).mono ?_; rintro e w6 ⟨rfl, rfl⟩))
              go_ret2
              refine ⟨HBW.out.grown G5.out hwz (fun q hq => by cases hq; omega), .inr ⟨q, S, g, rfl, ?_, ?_, rfl, by omega, ?_⟩⟩
              · rw [HE0.out]; omega
              · rw [HE0.out]; exact RS.out
              · exact rowAt_take R5.out (by rw [L5.out]; exact hqk)
            · intro x cc w3 cnt1 hwx hwc hlx hat hrg1 hlt1 hg1 hs1 hen
              have r3 : w3.ownsRow (w.heap.size + 2) 3 1 (.slice (some ⟨g, 0, none⟩) ks.length cap) ks.length (intVs ks) := own_of_eq HRW.out (fun q hq => hg1.block q (HRW.out.lt q hq).2 (fun e => hgr (by
                have e1 := Option.some.inj e
                have e2 : g = q := Option.some.inj hq
                rw [e2, e1])))
              have m3 : w3.cell? ⟨w.heap.size + 1, 0, none⟩ = some (.map (some w.heap.size)) := (World.cell?_of_block (a := ⟨w.heap.size + 1, 0, none⟩) (hg1.block (w.heap.size + 1) (by omega) (fun e => by have := Option.some.inj e; omega))).trans HMB.out
              have hx : hasE E x = true := by
                rw [← HR.out.has x hwx]
                exact has_true_of_atKey hat
              have b3 : Below w.heap.size w w3 := HBW.out.grown hg1 hwz (fun q hq => by cases hq; omega)
              have RG1 := Lib.hid hrg1
              have R3 := Lib.hid r3
              have HXX := Lib.hid hx
              have HLX := Lib.hid hlx
              have HWX := Lib.hid hwx
              have M3 := Lib.hid m3
              have B3 := Lib.hid b3
              have hcn : ks.length < 1000 := by omega
              have hs1' : wi.heap.size ≤ w3.heap.size := by omega
              have hgl3 : g < w3.heap.size := by omega
              clear hrg hrg1 r3 hx hlx hat hwc hwx m3 b3 hs1
              go_wp2_with (
                (at_builtin
                 refine wpList_append_form _ rfl (.tmp 66) (.tmp 68) 23 rfl (w.heap.size + 2) 3 i0 _ 1 8 Try.underlying23 hi0 hz0 hz1 hz2 rfl (by omega) _ ks.length (intVs ks) rfl (by exact R3.out.alloc _) (some ⟨w3.heap.size, 0, none⟩) 1 1 [.int .i64 x] rfl rfl (fun e => by cases e) (by exact src_new _ _ _ _) (by intro u hu; simp only [List.mem_cons, List.not_mem_nil, or_false] at hu; subst hu; rfl) (by omega) (by simp only [maxLen]; omega) (by omega) (by simp only [World.size_alloc]; omega) ?_
                 intro g2 cap2 w4 hown4 hg4 hat4 hlt4
                 have RW4 := Lib.hid hown4
                 have G4 := Lib.hid hg4
                 have AT4 := Lib.hid hat4
                 clear hown4 hg4 hat4))
              have hrg4 := (RG1.out.alloc (.cells #[.int .i64 x] 3)).kept G4.out (fun e => by have h : w.heap.size = g := Option.some.inj e; omega) (fun e => hgr (Option.some.inj e).symm)
              have hz4 := G4.out.size
              rw [World.size_alloc] at hz4
              go_roundw
              case rel =>
                refine ⟨_, cnt1, ks ++ [x], g2, cap2, by simp, hrg4, by simp; omega, by rw [List.length_append, intVs, List.map_append]; exact RW4.out, fun y hy => ?_, ?_, fun y hy => ?_, ?_, (B3.out.alloc B3.out.size _).grown G4.out (by simp; omega) (fun q hq => by have h : g = q := Option.some.inj hq; omega), ?_, by omega⟩
                · rw [List.mem_append, HME.out y hy, List.mem_singleton]
                  by_cases hyx : y = x
                  · subst hyx
                    simp [HXX.out, Lit.sameKey]
                  · rw [sameKey_ne (key_ne hyx)]
                    simp [hyx]
                · rw [List.nodup_append]
                  refine ⟨HND.out, by simp, fun a ha b hb => ?_⟩
                  have hb : b = x := by simpa using hb
                  subst hb
                  intro e
                  subst e
                  have := ((HME.out a HWX.out).1 ha).2
                  rw [HLX.out] at this
                  cases this
                · rcases List.mem_append.1 hy with hy | hy
                  · exact HWF.out y hy
                  · rw [List.mem_singleton.1 hy]; exact HWX.out
                · rw [World.cell?_of_block (a := ⟨w.heap.size + 1, 0, none⟩) (G4.out.block (w.heap.size + 1) (by simp; omega) (fun e => by have h : w.heap.size + 1 = g := Option.some.inj e; omega)), World.cell?_alloc_old _ _ _ (by show w.heap.size + 1 < _; omega)]
                  exact M3.out
                · rcases AT4.out with h | h
                  · have e : g = g2 := Option.some.inj h
                    rw [← e]; exact hgr
                  · rw [World.size_alloc] at h; omega
              case measure => rw [hrg4.left_eq, RG.out.left_eq]; exact hlt1
end Go.Proofs.Ytjeccacacecdfaa
