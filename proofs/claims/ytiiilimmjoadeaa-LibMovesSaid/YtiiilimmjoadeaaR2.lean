/- What the methods of the document's cartridge do that change it. No condition beyond those that each theorem states. -/
import Derived.Test.YtiiilimmjoadeaaR1
import Derived.Outline
import Derived.RegionTactic
import Derived.Lib.Strings
namespace Go.Proofs.Ytiiilimmjoadeaa
open Go.RowKit

section
variable {F : Nat → Prop} {w w' : World} {p : Nat} {M : Recs} {most : Int} {gone : Bool}
theorem ROwn.same (h : ROwn F w p M most gone) (hb : Below w.heap.size w w') : ∃ F', ROwn F' w' p M most gone ∧ Took F F' w w' := Took.same (ROwn.owning p M most gone) h hb
theorem OwnRow.blk {t : TypeId} {size n : Nat} {v : Value} {xs : List Value} (h : OwnRow F w t size v n xs) {g : Nat} (hg : v.ownBlock = some g) : ∃ cs, Blk w g t cs := own_blk h.1 hg
theorem OwnRow.ne_blk {t t' : TypeId} {size n : Nat} {v : Value} {xs : List Value} (h : OwnRow F w t size v n xs) {q : Nat} {cs : Array Value} (hb : Blk w q t' cs) (hne : t ≠ t') {g : Nat} (hg : v.ownBlock = some g) : g ≠ q := by
  obtain ⟨cs', h'⟩ := h.blk hg
  exact blk_ne h' hb hne
theorem OwnRow.ne_row {t t' : TypeId} {size n size' n' : Nat} {v v' : Value} {xs xs' : List Value} (h : OwnRow F w t size v n xs) (h' : OwnRow F w t' size' v' n' xs') (hne : t ≠ t') {g g' : Nat} (hg : v.ownBlock = some g) (hg' : v'.ownBlock = some g') : g ≠ g' := by
  obtain ⟨cs', h2⟩ := h'.blk hg'
  exact h.ne_blk h2 hne hg
/-- A store into a row of one's own. -/
theorem OwnRow.store {t : TypeId} {n g cap : Nat} {xs : List Value} (h : OwnRow F w t 1 (.slice (some ⟨g, 0, none⟩) n cap) n xs) (i : Nat) (u : Value) : OwnRow F (w.setCell ⟨g, i, none⟩ u) t 1 (.slice (some ⟨g, 0, none⟩) n cap) n (xs.set i u) := by
  refine ⟨?_, h.2⟩
  have hx := h.1
  refine ⟨by rw [List.length_set]; exact hx.1, ?_⟩
  rcases hx.2 with ⟨h', _⟩ | ⟨g', cap', cur, hv, h1, h2, h3, h4, h5, h6⟩
  · cases h'
  · have e1 : g = g' := by
      injection hv with hv
      injection hv with hv
      injection hv
    subst e1
    refine .inr ⟨g, cap', cur.setIfInBounds i u, hv, h1, ?_, h3, h4, by simpa using h5, ?_⟩
    · simp [World.setCell, Array.getElem?_modify, h2]
    · rw [← h6, Array.toList_setIfInBounds, List.take_set]
end

set_option maxHeartbeats 1000000 in
theorem refLose (F : Nat → Prop) (p : Nat) (M : Recs) (most : Int) (gone : Bool) (w : World) (h : ROwn F w p M most gone) :
    Calls Try.prog 47 #[.pointer (some ⟨p, 0, none⟩)] w fun e w' => e = .returned (.bool (!gone)) ∧ ∃ F', ROwn F' w' p M most true ∧ Took F F' w w' := by
  have H := Lib.hid h
  obtain ⟨rv, bv, ⟨hb, hp⟩, hr, hq, hl⟩ := h
  have c3 : w.cell? ⟨p, 3, none⟩ = some (.bool gone) := hb.cell 3
  have f3 : w.frozen? ⟨p, 3, none⟩ = false := hb.free 3
  cases gone with
  | true =>
    clear hb hr hq hl hp
    go_enter Try.func47, Try.ntmps47
    go_wp2
    go_ret
    exact ⟨rfl, H.out.same (Below.refl _ _)⟩
  | false =>
    have hfin : ∃ F', ROwn F' (w.setCell ⟨p, 3, none⟩ (.bool true)) p M most true ∧ Took F F' w (w.setCell ⟨p, 3, none⟩ (.bool true)) := by
      have hc : Chg F w (w.setCell ⟨p, 3, none⟩ (.bool true)) := (Chg.refl F w).store (p := ⟨p, 3, none⟩) (.inl hp) _
      refine Took.of (ROwn.owning p M most true) ⟨rv, bv, ⟨hb.store 3 _, .inl hp⟩, ?_, ?_, hl⟩ hc
      · exact ⟨own_of_eq hr.1 (fun g hg => Below.heap_setCell _ _ _ _ (hr.ne_blk hb (by decide) hg)), fun g hg => .inl (hr.2 g hg)⟩
      · exact ⟨own_of_eq hq.1 (fun g hg => Below.heap_setCell _ _ _ _ (hq.ne_blk hb (by decide) hg)), fun g hg => .inl (hq.2 g hg)⟩
    have HF := Lib.hid hfin
    clear hb hr hq hl hp hfin
    go_enter Try.func47, Try.ntmps47
    go_wp2
    go_ret
    exact ⟨rfl, HF.out⟩

/-- A record's mark turned. -/
theorem ROwn.mark {F : Nat → Prop} {w : World} {p g cap i : Nat} {rv : Value} {M : Recs} {most : Int} {gone : Bool} {l : List UInt8} {b b' : Bool} (hb : OwnBlk F w p 47 #[rv, .slice (some ⟨g, 0, none⟩) M.length cap, .int .i64 most, .bool gone]) (hr : OwnRow F w 9 1 rv M.length (strs M))
    (hq : OwnRow F w 4 1 (.slice (some ⟨g, 0, none⟩) M.length cap) M.length (rotVals M)) (hl : 0 ≤ most ∧ most ≤ 1024 ∧ (M.length : Int) ≤ most) (hm : M[i]? = some (l, b)) :
    ∃ F', ROwn F' (w.setCell ⟨g, i, none⟩ (.bool b')) p (M.set i (l, b')) most gone ∧ Took F F' w (w.setCell ⟨g, i, none⟩ (.bool b')) := by
  have hi : i < M.length := (List.getElem?_eq_some_iff.1 hm).1
  have hc : Chg F w (w.setCell ⟨g, i, none⟩ (.bool b')) := (Chg.refl F w).store (p := ⟨g, i, none⟩) (.inl (hq.2 g rfl)) _
  refine Took.of (ROwn.owning p _ most gone) ⟨rv, .slice (some ⟨g, 0, none⟩) M.length cap, ⟨hb.1.apart (p := ⟨g, i, none⟩) (Ne.symm (hq.ne_blk hb.1 (by decide) rfl)) _, .inl hb.2⟩, ?_, ?_, hl.1, hl.2.1, by rw [List.length_set]; exact hl.2.2⟩ hc
  · rw [List.length_set, strs_set hm]
    exact ⟨own_of_eq hr.1 (fun q hg => Below.heap_setCell _ _ _ _ (hr.ne_row hq (by decide) hg rfl)), fun q hg => .inl (hr.2 q hg)⟩
  · rw [List.length_set, rotVals_set]
    have h1 := hq.store i (.bool b')
    exact ⟨h1.1, fun q hg => .inl (h1.2 q hg)⟩

set_option maxHeartbeats 1000000 in
theorem refRot (F : Nat → Prop) (p : Nat) (M : Recs) (most : Int) (gone : Bool) (pos : Int) (w : World) (h : ROwn F w p M most gone) :
    Calls Try.prog 45 #[.pointer (some ⟨p, 0, none⟩), .int .i64 pos] w fun e w' => e = .returned (.bool (rotM M gone pos).1) ∧ ∃ F', ROwn F' w' p (rotM M gone pos).2 most gone ∧ Took F F' w w' := by
  have H := Lib.hid h
  obtain ⟨rv, bv, hb, hr, hq, hl⟩ := h
  have c1 : w.cell? ⟨p, 1, none⟩ = some bv := hb.1.cell 1
  by_cases hpos : gone = false ∧ 0 ≤ pos ∧ pos < M.length
  · obtain ⟨rfl, hp1, hp2⟩ := hpos
    obtain ⟨i, rfl⟩ := Int.eq_ofNat_of_zero_le hp1
    have hi : i < M.length := by omega
    obtain ⟨l, r, hm⟩ : ∃ l r, M[i]? = some (l, r) := ⟨_, _, List.getElem?_eq_getElem hi⟩
    have e1 : rotM M false (i : Int) = if r then (false, M) else (true, M.set i (l, true)) := by
      unfold rotM
      rw [if_neg (by simp), if_neg (by omega), Int.toNat_natCast, hm]
    have e2 : isM M false (i : Int) = true := by unfold isM; simpa using hi
    rw [e1]
    have E2 := Lib.hid e2
    rcases hq.form with ⟨_, h0⟩ | ⟨g', cap', rfl, _, _, _, _⟩
    · omega
    have k1 : w.cell? ⟨g', i, none⟩ = some (.bool r) := hq.row.cell (rotVals_get hm)
    have f1 : w.frozen? ⟨g', i, none⟩ = false := hq.row.free i
    have HF := Lib.hid (ROwn.mark (b' := true) hb hr hq hl hm)
    clear e1 e2 hm hb hr hq hl hp1 hp2
    cases r with
    | true =>
      go_enter Try.func45, Try.ntmps45
      go_wp2_with (go_at_call 50; refine (refIs F p M most false i _ H.out).mono ?_; rintro e w1 ⟨rfl, rfl⟩; rw [E2.out])
      go_ret
      exact ⟨rfl, H.out.same (Below.refl _ _)⟩
    | false =>
      go_enter Try.func45, Try.ntmps45
      go_wp2_with (go_at_call 50; refine (refIs F p M most false i _ H.out).mono ?_; rintro e w1 ⟨rfl, rfl⟩; rw [E2.out])
      go_ret
      exact ⟨rfl, HF.out⟩
  · have e1 : rotM M gone pos = (false, M) := by
      unfold rotM
      cases gone with
      | true => rfl
      | false =>
        rw [if_neg (by simp)]
        by_cases hneg : pos < 0
        · rw [if_pos hneg]
        · rw [if_neg hneg, List.getElem?_eq_none (by simp at hpos; omega)]
    have e2 : isM M gone pos = false := by unfold isM; cases gone <;> simp at hpos ⊢; exact hpos
    have E2 := Lib.hid e2
    rw [e1]
    clear e1 e2 hb hr hq hl hpos
    go_enter Try.func45, Try.ntmps45
    go_wp2_with (go_at_call 50; refine (refIs F p M most gone pos _ H.out).mono ?_; rintro e w1 ⟨rfl, rfl⟩; rw [E2.out])
    go_ret
    exact ⟨rfl, H.out.same (Below.refl _ _)⟩

/-- A record's bytes cut. -/
theorem ROwn.cut {F : Nat → Prop} {w wx : World} {p g cap i : Nat} {bv : Value} {M : Recs} {most : Int} {gone : Bool} {l l' : List UInt8} {b : Bool} (hb : OwnBlk F w p 47 #[.slice (some ⟨g, 0, none⟩) M.length cap, bv, .int .i64 most, .bool gone]) (hr : OwnRow F w 9 1 (.slice (some ⟨g, 0, none⟩) M.length cap) M.length (strs M))
    (hq : OwnRow F w 4 1 bv M.length (rotVals M)) (hl : 0 ≤ most ∧ most ≤ 1024 ∧ (M.length : Int) ≤ most) (hm : M[i]? = some (l, b)) (hx : Below w.heap.size (w.setCell ⟨g, i, none⟩ (.string ⟨l'.toArray⟩)) wx) :
    ∃ F', ROwn F' wx p (M.set i (l', b)) most gone ∧ Took F F' w wx := by
  have hi : i < M.length := (List.getElem?_eq_some_iff.1 hm).1
  have hzz : (w.setCell ⟨g, i, none⟩ (.string ⟨l'.toArray⟩)).heap.size = w.heap.size := by simp [World.setCell]
  have hc : Chg F w (w.setCell ⟨g, i, none⟩ (.string ⟨l'.toArray⟩)) := (Chg.refl F w).store (p := ⟨g, i, none⟩) (.inl (hr.2 g rfl)) _
  have hc2 : Chg F w wx := hc.trans (Chg.of_below F (hzz.symm ▸ hx))
  refine Took.of (ROwn.owning p _ most gone) ?_ hc2
  refine (ROwn.owning p _ most gone).below (w := w.setCell ⟨g, i, none⟩ (.string ⟨l'.toArray⟩)) ?_ (hzz.symm ▸ hx)
  refine ⟨.slice (some ⟨g, 0, none⟩) M.length cap, bv, ⟨hb.1.apart (p := ⟨g, i, none⟩) (Ne.symm (hr.ne_blk hb.1 (by decide) rfl)) _, .inl hb.2⟩, ?_, ?_, hl.1, hl.2.1, by rw [List.length_set]; exact hl.2.2⟩
  · rw [List.length_set]
    have h1 := hr.store i (.string ⟨l'.toArray⟩)
    rw [show strs (M.set i (l', b)) = (strs M).set i (.string ⟨l'.toArray⟩) by simp [strs, List.map_set]]
    exact ⟨h1.1, fun q hg => .inl (h1.2 q hg)⟩
  · rw [List.length_set, show rotVals (M.set i (l', b)) = rotVals M by
      unfold rotVals
      rw [List.map_set]
      apply List.ext_getElem?
      intro j
      rw [List.getElem?_set]
      split
      · rename_i e
        subst e
        rw [List.getElem?_map, hm, if_pos (by simpa using hi)]
        rfl
      · rfl]
    exact ⟨own_of_eq hq.1 (fun q hg => Below.heap_setCell _ _ _ _ (hq.ne_row hr (by decide) hg rfl)), fun q hg => .inl (hq.2 q hg)⟩

theorem extract_take (l : List UInt8) (k : Nat) : (⟨l.toArray⟩ : ByteArray).extract 0 k = ⟨(l.take k).toArray⟩ := by
  apply ByteArray.ext
  apply Array.ext'
  simp
theorem below_of_drew_r {B : Nat} {w : World} : Below B w w.drew := ⟨rfl, rfl, rfl, Nat.le_refl _, fun _ _ => rfl⟩

set_option maxHeartbeats 1000000 in
theorem refTear (F : Nat → Prop) (p : Nat) (M : Recs) (most : Int) (gone : Bool) (n : Int) (w : World) (h : ROwn F w p M most gone) (hsh : ∀ r ∈ M, r.1.length ≤ 256) :
    Calls Try.prog 46 #[.pointer (some ⟨p, 0, none⟩), .int .i64 n] w fun e w' => e = .returned (.bool (tearM M gone n).1) ∧ ∃ F', ROwn F' w' p (tearM M gone n).2 most gone ∧ Took F F' w w' := by
  have H := Lib.hid h
  obtain ⟨rv, bv, hb, hr, hq, hl⟩ := h
  by_cases hpos : gone = false ∧ 0 < M.length
  · obtain ⟨rfl, hp2⟩ := hpos
    obtain ⟨i, hi⟩ : ∃ i, M.length = i + 1 := ⟨M.length - 1, by omega⟩
    have hil : i < M.length := by omega
    obtain ⟨l, r, hm⟩ : ∃ l r, M[i]? = some (l, r) := ⟨_, _, List.getElem?_eq_getElem hil⟩
    have hl256 : l.length ≤ 256 := hsh _ (List.mem_of_getElem? hm)
    have e1 : tearM M false n = if 0 ≤ n ∧ n < l.length then (true, M.set i (l.take n.toNat, r)) else (false, M) := by
      unfold tearM
      rw [if_neg (by simp), show M.length - 1 = i by omega, hm]
    have e2 : isM M false (i : Int) = true := by unfold isM; simpa using hil
    have E2 := Lib.hid e2
    rcases hr.form with ⟨_, h0⟩ | ⟨g, cap, rfl, _, _, _, _⟩
    · omega
    have c0 : w.cell? ⟨p, 0, none⟩ = some (.slice (some ⟨g, 0, none⟩) (i + 1) cap) := by rw [← hi]; exact hb.1.cell 0
    have k1 : w.cell? ⟨g, i, none⟩ = some (.string ⟨l.toArray⟩) := hr.row.cell (strs_get hm)
    have f1 : w.frozen? ⟨g, i, none⟩ = false := hr.row.free i
    have hi63 : (i : Int) ≤ 1024 := by omega
    have s1 : IntKind.i64.wrap (i : Int) = i := IntWalk.i64_in _ (by omega)
    have s2 : wrap64 (i : Int) = i := IntWalk.wrap64_in _ (by omega)
    have HCUT := Lib.hid (fun (wx : World) => ROwn.cut (l' := l.take n.toNat) (wx := wx) hb hr hq hl hm)
    clear e2 hm hb hr hq hl hsh hi hp2 hil
    by_cases hn : 0 ≤ n
    · obtain ⟨k, rfl⟩ := Int.eq_ofNat_of_zero_le hn
      have d1 : decide ((k : Int) < 0) = false := by simp
      by_cases hk : k < l.length
      · have d2 : decide (l.length ≤ k) = false := by simpa using hk
        rw [e1, if_pos (by omega)]
        clear e1
        go_enter Try.func46, Try.ntmps46
        go_wp2_with (go_at_call 50; refine (refIs F p M most false i _ H.out).mono ?_; rintro e w1 ⟨rfl, rfl⟩; rw [E2.out])
        go_region
        all_goals
          go_wp2_with fail
          go_ret
          refine ⟨rfl, HCUT.out _ ?_⟩
          rw [extract_take, Int.toNat_natCast]
          exact below_of_drew_r
      · have d2 : decide (l.length ≤ k) = true := by simpa using hk
        rw [e1, if_neg (by omega)]
        clear e1
        go_enter Try.func46, Try.ntmps46
        go_wp2_with (go_at_call 50; refine (refIs F p M most false i _ H.out).mono ?_; rintro e w1 ⟨rfl, rfl⟩; rw [E2.out])
        go_ret
        exact ⟨rfl, H.out.same (Below.refl _ _)⟩
    · have d1 : decide (n < 0) = true := by simpa using hn
      rw [e1, if_neg (by omega)]
      clear e1
      go_enter Try.func46, Try.ntmps46
      go_wp2_with (go_at_call 50; refine (refIs F p M most false i _ H.out).mono ?_; rintro e w1 ⟨rfl, rfl⟩; rw [E2.out])
      go_ret
      exact ⟨rfl, H.out.same (Below.refl _ _)⟩
  · have e1 : tearM M gone n = (false, M) := by
      unfold tearM
      cases gone with
      | true => rfl
      | false =>
        rw [if_neg (by simp), List.getElem?_eq_none (by simp only [true_and] at hpos; omega)]
    have e2 : isM M gone ((M.length : Int) - 1) = false := by
      unfold isM
      cases gone with
      | true => rfl
      | false =>
        have : M.length = 0 := by simp only [true_and] at hpos; omega
        rw [this]; rfl
    have c0 : w.cell? ⟨p, 0, none⟩ = some rv := hb.1.cell 0
    have hlm : (M.length : Int) ≤ 1024 := by omega
    have E2 := Lib.hid e2
    rw [e1]
    rcases hr.form with ⟨rfl, h0⟩ | ⟨g, cap, rfl, _, _, _, _⟩
    · have e3 : isM M gone (-1) = false := by rw [h0] at e2; exact e2
      have E3 := Lib.hid e3
      have s1 : IntKind.i64.wrap (0 - 1) = -1 := by decide
      clear e1 e2 e3 hb hr hq hl hpos h0 hsh
      go_enter Try.func46, Try.ntmps46
      go_wp2_with (go_at_call 50; refine (refIs F p M most gone _ _ H.out).mono ?_; rintro e w1 ⟨rfl, rfl⟩; rw [E3.out])
      go_ret
      exact ⟨rfl, H.out.same (Below.refl _ _)⟩
    · clear e1 e2 hb hr hq hl hpos hsh
      go_enter Try.func46, Try.ntmps46
      go_wp2_with (go_at_call 50; refine (refIs F p M most gone _ _ H.out).mono ?_; rintro e w1 ⟨rfl, rfl⟩; rw [E2.out])
      go_ret
      exact ⟨rfl, H.out.same (Below.refl _ _)⟩

set_option maxHeartbeats 1000000 in
theorem refAppend_bad (F : Nat → Prop) (p : Nat) (M : Recs) (most : Int) (gone : Bool) (A : Option Addr) (n c : Nat) (w : World) (h : ROwn F w p M most gone) (hn : n ≤ 9223372036854775807) (hbad : (n = 0 ∨ 256 < n) ∨ gone = true) :
    Calls Try.prog 48 #[.pointer (some ⟨p, 0, none⟩), .slice A n c] w fun e w' => e = .returned (.tuple #[.int .i64 0, .int .i64 (if n = 0 ∨ 256 < n then 1 else 9)]) ∧ w = w' := by
  obtain ⟨rv, bv, hb, hr, hq, hl⟩ := h
  have c3 : w.cell? ⟨p, 3, none⟩ = some (.bool gone) := hb.1.cell 3
  clear hb hr hq hl
  by_cases h1 : n = 0
  · subst h1
    rw [if_pos (.inl rfl)]
    clear hbad
    go_enter Try.func48, Try.ntmps48
    go_wp2
    go_ret2
    exact ⟨rfl, rfl⟩
  · have d1 : decide ((n : Int) < 1) = false := by simp; omega
    by_cases h2 : 256 < n
    · rw [if_pos (.inr h2)]
      have d2 : decide ((256 : Int) < n) = true := by simp; omega
      clear hbad h1 h2
      go_enter Try.func48, Try.ntmps48
      go_wp2
      go_ret2
      exact ⟨rfl, rfl⟩
    · rw [if_neg (by omega)]
      obtain rfl : gone = true := by
        rcases hbad with h | h
        · omega
        · exact h
      have d2 : decide ((256 : Int) < n) = false := by simp; omega
      clear hbad h1 h2
      go_enter Try.func48, Try.ntmps48
      go_wp2
      go_ret2
      exact ⟨rfl, rfl⟩

set_option maxHeartbeats 1000000 in
theorem refAppend_full (F : Nat → Prop) (p : Nat) (M : Recs) (most : Int) (A : Option Addr) (n c : Nat) (w : World) (h : ROwn F w p M most false) (h1 : 1 ≤ n) (h2 : n ≤ 256) (hf : most ≤ M.length) :
    Calls Try.prog 48 #[.pointer (some ⟨p, 0, none⟩), .slice A n c] w fun e w' => e = .returned (.tuple #[.int .i64 0, .int .i64 7]) ∧ Below w.heap.size w w' := by
  obtain ⟨rv, bv, hb, hr, hq, hl⟩ := h
  have c0 : w.cell? ⟨p, 0, none⟩ = some rv := hb.1.cell 0
  have c2 : w.cell? ⟨p, 2, none⟩ = some (.int .i64 most) := hb.1.cell 2
  have c3 : w.cell? ⟨p, 3, none⟩ = some (.bool false) := hb.1.cell 3
  have d1 : decide ((n : Int) < 1) = false := by simp; omega
  have d2 : decide ((256 : Int) < n) = false := by simp; omega
  have hfm := hr.form
  clear hb hr hq hl
  rcases hfm with ⟨rfl, h0⟩ | ⟨g, cap, rfl, _, _, _, _⟩
  · have hf' : most ≤ 0 := by omega
    clear hf h0
    go_enter Try.func48, Try.ntmps48
    go_wp2
    go_quiet (fail)
    go_wp2
    go_ret2
    exact ⟨rfl, ⟨rfl, rfl, rfl, Nat.le_refl _, fun _ _ => rfl⟩⟩
  · go_enter Try.func48, Try.ntmps48
    go_wp2
    go_quiet (fail)
    go_wp2
    go_ret2
    exact ⟨rfl, ⟨rfl, rfl, rfl, Nat.le_refl _, fun _ _ => rfl⟩⟩
end Go.Proofs.Ytiiilimmjoadeaa
