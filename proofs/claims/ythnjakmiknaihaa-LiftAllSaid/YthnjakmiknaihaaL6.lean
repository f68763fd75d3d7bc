/- The law LiftAll returns true on values. No condition beyond those that each theorem states. -/
import Derived.Test.YthnjakmiknaihaaL5
import Derived.Deep.RegionHeld3
namespace Go.Proofs.Ythnjakmiknaihaa
open Go.RowKit

theorem ask_info : (Try.prog.info? 32).map (fun i => (i.zero, i.size, i.bytes)) = some (some (.agg #[.int .i64 0, .int .i64 0, .int .i64 0, .int .i64 0, .int .i64 0, .int .i64 0]), 6, 48) := by kernel_rfl
theorem keepc {B : Nat} {w w' : World} {b o : Nat} {v : Value} (h : Below B w w') (hb : b < B) (hc : w.cell? ⟨b, o, none⟩ = some v) : w'.cell? ⟨b, o, none⟩ = some v := (h.cell (p := ⟨b, o, none⟩) hb).trans hc

def hasTo (xs : List Ask) (p : Int) : Nat → Bool
  | 0 => false
  | k + 1 => hasTo xs p k || (askAt xs k).pos == p
theorem hasTo_no {xs : List Ask} {p : Int} {k : Nat} (h : hasTo xs p k = false) : ∀ i, i < k → (askAt xs i).pos ≠ p := by
  induction k with
  | zero => intro i hi; omega
  | succ k ih =>
    simp only [hasTo, Bool.or_eq_false_iff] at h
    intro i hi
    rcases Nat.lt_or_ge i k with hlt | hge
    · exact ih h.1 i hlt
    · obtain rfl : i = k := by omega
      simpa using h.2

/-- The bytes that come in. -/
def BytesAt (w : World) (b off n : Nat) (f : Nat → Int) : Prop := ∀ i, i < n → w.cell? ⟨b, off + i, none⟩ = some (.int .u8 (f i))

theorem aw_hd' {W : World} {b : Nat} {x y : Int} (h : W.heap[b]? = some (.cells #[.int .i64 x, .int .i64 y] 35 (0, 0))) : HeadsAt W b 0 1 (fun _ => ⟨x, y⟩) := by
  have hc : ∀ j, W.cell? ⟨b, j, none⟩ = (#[.int .i64 x, .int .i64 y] : Array Value)[j]? := fun j => by simp [World.cell?, h]
  unfold HeadsAt
  simp only [hc]
  refine ⟨?_, ?_⟩ <;> intro i hi <;> rcases i with _ | i <;> first | rfl | omega

theorem hd_new (W : World) (x y : Int) : HeadsAt (W.alloc (.cells #[.int .i64 x, .int .i64 y] 35)) W.heap.size 0 1 (fun _ => ⟨x, y⟩) := aw_hd' (heap_alloc_new W _)

theorem size_set (w : World) (a : Addr) (v : Value) : (w.setCell a v).heap.size = w.heap.size := by simp [World.setCell]
theorem own_none (W : World) {base g : Nat} (hg : g = W.heap.size) (h : base ≤ g) : (W.alloc (.cells #[] 32)).ownsRow base 32 6 (.slice (some ⟨g, 0, none⟩) 0 0) 0 [] := by
  subst hg
  exact ⟨rfl, .inr ⟨_, 0, #[], rfl, h, heap_alloc_new _ _, Nat.le_refl _, by simp [maxLen], rfl, rfl⟩⟩
theorem take_get {ys : List Ask} {j q : Nat} {u : Value} (h : (rowVals (ys.take j))[q]? = some u) : (rowVals ys)[0 + q]? = some u := by
  rw [rowVals, flat_take askVals_length, List.getElem?_take] at h
  rw [Nat.zero_add]
  split at h
  · exact h
  · cases h
theorem drop_get {ys : List Ask} {j q : Nat} {u : Value} (h : (rowVals (ys.drop j))[q]? = some u) : (rowVals ys)[j * 6 + q]? = some u := by
  rw [rowVals, flat_drop askVals_length, List.getElem?_drop] at h
  exact h

set_option maxRecDepth 100000 in
set_option maxHeartbeats 16000000 in
theorem liftAll_walk (A : Option Addr) (n c : Nat) (f : Nat → Int) (from_ : Int) (w : World)
    (hA : InArg w A n fun b off => BytesAt w b off n f) (hf : ∀ i, i < n → 0 ≤ f i ∧ f i ≤ 255) (hf0 : 0 ≤ from_) (hf1 : from_ ≤ 255) :
    Calls Try.prog 6 #[.slice A n c, .int .u8 from_] w fun e w' => e = .returned (.bool true) ∧ Below w.heap.size w w' := by
  obtain ⟨i0, hi0, hz0, hz1, hz2⟩ := info_parts ask_info
  have HA := Lib.hid hA
  have HF := Lib.hid hf
  clear hA hf
  go_enter Try.func6, Try.ntmps6
  go_wp2_with (fail)
  go_loopw [5, 6] (fun l i wr => ∃ (xs : List Ask) (g cap k : Nat), l = .slice (some ⟨g, 0, none⟩) xs.length cap ∧ i = .int .i64 k ∧ k ≤ n ∧ xs.length ≤ k ∧ xs.length ≤ 40 ∧ Fine xs ∧ w.heap.size ≤ g ∧ wr.ownsRow w.heap.size 32 6 (.slice (some ⟨g, 0, none⟩) xs.length cap) xs.length (rowVals xs) ∧ Below w.heap.size w wr) (fun _ i _ => n - (intOf i).toNat)
  case atStart =>
    refine ⟨[], w.heap.size, 0, 0, rfl, rfl, by omega, by simp, by simp, Fine.nil, Nat.le_refl _, ?_, (Below.refl _ _).alloc (Nat.le_refl _) _⟩
    exact ⟨rfl, .inr ⟨_, 0, #[], rfl, Nat.le_refl _, heap_alloc_new _ _, Nat.le_refl _, by simp [maxLen], rfl, rfl⟩⟩
  case round =>
    obtain ⟨xs, g, cap, k, rfl, rfl, hk, hxk, hx40, hfine, hgw, hown, hbel⟩ := hrel
    have HB := Lib.hid hbel
    have HO := Lib.hid hown
    have hsz := hbel.size
    have hgl := own_lt hown
    have HFI := Lib.hid hfine
    obtain ⟨hcap, hcm2⟩ := own_cap hown
    clear hbel hown hfine
    by_cases hin : k < n ∧ k < 40
    · obtain ⟨hlt, h40⟩ := hin
      obtain ⟨b, off, rfl, hb, hbx⟩ := HA.out.resolve_left (by omega)
      have hfk := HF.out k hlt
      have hq := keepc HB.out hb (hbx k hlt)
      have hbw : b < wr.heap.size := by omega
      go_wp2_with (fail)
      obtain ⟨wo, rfl⟩ : ∃ wo : World, wo = wr := ⟨_, rfl⟩
      go_loopw [7, 8] (fun tw i wr => ∃ q : Nat, q ≤ xs.length ∧ tw = .bool (hasTo xs (f k) q) ∧ i = .int .i64 q ∧ Below wo.heap.size wo wr) (fun _ i _ => xs.length - (intOf i).toNat)
      case atStart => exact ⟨0, by omega, rfl, rfl, Below.refl _ _⟩
      case round =>
        obtain ⟨q, hq1, rfl, rfl, hbel⟩ := hrel
        have c1 := keepc hbel hbw hq
        have hown1 := own_kept HO.out (hbel.block g hgl)
        have hsz1 := hbel.size
        have HB1 := Lib.hid hbel
        by_cases hlq : q < xs.length
        · obtain ⟨_, _, _, g3, _, _⟩ := own_asks hown1 rfl
          clear hbel hown1
          cases hh : hasTo xs (f k) q
          all_goals
            have HH := Lib.hid hh
            clear hh
            go_wp2_with (fail)
            go_quiet (fail)
            go_wp2_with (fail)
            go_roundw
            case rel => exact ⟨q + 1, hlq, by rw [hasTo, HH.out]; rfl, by go_num, below_drewN HB1.out _⟩
            case measure => simp [intOf]; omega
        · obtain rfl : q = xs.length := by omega
          clear hbel hown1
          cases hh : hasTo xs (f k) xs.length
          · have HH := Lib.hid (hasTo_no hh)
            have hz : wo.heap.size < wr.heap.size + 1 := by omega
            clear hh
            go_wp2_with (at_builtin
                         refine wpList_append_form _ rfl (.tmp 49) (.tmp 57) 22 rfl w.heap.size 32 i0 _ 6 48 Try.underlying22 hi0 hz0 hz1 hz2 rfl (by omega) (.slice (some ⟨g, 0, none⟩) xs.length cap) xs.length (rowVals xs) rfl ((own_kept HO.out (HB1.out.block g hgl)).alloc _) (some ⟨wr.heap.size, 0, none⟩) 1 1 (rowVals [⟨k, 0, 3, f k, 0, 5⟩]) rfl rfl (fun h => by cases h) (by exact src_new _ _ _ _) (rowVals_one _) (by omega) (by simp only [maxLen]; omega) (by omega) (by simp; omega) ?_
                         intro g2 cap2 w2 hown2 hgr2 hat2 hlt2)
            have hb2 : Below w.heap.size w w2 := ((HB.out.trans (HB1.out.mono hsz)).alloc (by omega) _).grown hgr2 (by simp; omega) (fun q hq => by have e : g = q := Option.some.inj hq; omega)
            have e2 : (xs ++ [(⟨k, 0, 3, f k, 0, 5⟩ : Ask)]).length = xs.length + 1 := by simp
            have hg2 : w.heap.size ≤ g2 := by
              rcases hat2 with h | h
              · have e : g = g2 := Option.some.inj h
                omega
              · rw [World.size_alloc] at h; omega
            have HO2 : Hid (w2.ownsRow w.heap.size 32 6 (.slice (some ⟨g2, 0, none⟩) (xs ++ [(⟨k, 0, 3, f k, 0, 5⟩ : Ask)]).length cap2) (xs ++ [(⟨k, 0, 3, f k, 0, 5⟩ : Ask)]).length (rowVals (xs ++ [⟨k, 0, 3, f k, 0, 5⟩]))) := by
              rw [e2, show rowVals (xs ++ [⟨k, 0, 3, f k, 0, 5⟩]) = rowVals xs ++ rowVals [⟨k, 0, 3, f k, 0, 5⟩] from List.flatMap_append]
              exact hown2
            have HB2 := Lib.hid hb2
            have E2 := Lib.hid e2
            clear hb2 e2 hown2 hgr2 hat2
            go_wp2_with (fail)
            go_roundw
            case rel => exact ⟨xs ++ [⟨k, 0, 3, f k, 0, 5⟩], g2, cap2, k + 1, by rw [E2.out], by go_num, hlt, by rw [E2.out]; omega, by rw [E2.out]; omega, HFI.out.snoc ⟨rfl, rfl, hfk.1, hfk.2⟩ HH.out, hg2, HO2.out, HB2.out⟩
            case measure => simp [intOf]; omega
          · have HH := Lib.hid hh
            clear hh
            go_wp2_with (fail)
            go_roundw
            case rel => exact ⟨xs, g, cap, k + 1, rfl, by go_num, hlt, by omega, hx40, HFI.out, hgw, own_kept HO.out (HB1.out.block g hgl), HB.out.trans (HB1.out.mono hsz)⟩
            case measure => simp [intOf]; omega
    · have hfin : (k < n ∧ 40 ≤ k) ∨ n ≤ k := by omega
      have hserv : Served from_ xs from_ (-1) false := ⟨HFI.out, by omega, .inl ⟨rfl, .inl ⟨rfl, rfl⟩, fun i hi _ => by have := HFI.out.one i hi; omega⟩⟩
      have HS := Lib.hid hserv
      clear hserv
      rcases hfin with ⟨hl1, hl2⟩ | hl1
      all_goals
        clear hin
        go_wp2_with (fail)
        obtain ⟨wo, rfl⟩ : ∃ wo : World, wo = wr := ⟨_, rfl⟩
        go_loopw [5, 10, 11] (fun l la lo wr => ∃ (ys : List Ask) (g2 cap2 : Nat) (hp last : Int) (low : Bool), l = .slice (some ⟨g2, 0, none⟩) ys.length cap2 ∧ la = .int .i64 last ∧ lo = .bool low ∧ Served from_ ys hp last low ∧ ys.length ≤ 40 ∧ w.heap.size ≤ g2 ∧ g2 ≠ wo.heap.size ∧
          wr.ownsRow w.heap.size 32 6 (.slice (some ⟨g2, 0, none⟩) ys.length cap2) ys.length (rowVals ys) ∧ Blk wr wo.heap.size 35 #[.int .i64 3, .int .i64 hp] ∧ Below w.heap.size w wr) (fun l _ _ _ => sliceLen l)
        case atStart => exact ⟨xs, g, cap, from_, -1, false, rfl, rfl, rfl, HS.out, hx40, hgw, by omega, HO.out.alloc _, Blk.made _ _ _, HB.out.alloc hsz _⟩
        case round =>
          obtain ⟨ys, g2, cap2, hp, last, low, rfl, rfl, rfl, hsv, hy40, hgw2, hne, hown, hblk, hbel⟩ := hrel
          have hgl2 := own_lt hown
          obtain ⟨hc2, hc3⟩ := own_cap hown
          have e0 : wr.cell? ⟨wo.heap.size, 0, none⟩ = some (.int .i64 3) := hblk.cell 0
          have e1 : wr.cell? ⟨wo.heap.size, 1, none⟩ = some (.int .i64 hp) := hblk.cell 1
          have hbz := hblk.size
          have HSV := Lib.hid hsv
          have HO2 := Lib.hid hown
          have HBK := Lib.hid hblk
          have HB2 := Lib.hid hbel
          have hsz2 := hbel.size
          clear hsv hown hblk hbel
          by_cases hpos : 0 < ys.length
          · have hpos' : ((ys.length : Nat) : Int) ≠ 0 := by omega
            rcases along_best (askAt ys) 3 hp ys.length with ⟨_, hno⟩ | ⟨j, ha, hj, _, _, hbest⟩
            · exfalso
              have h1 := (HSV.out.fine.one 0 hpos).1
              have : mineTo (askAt ys) 3 1 = true := by simp [mineTo, h1]
              have : ∀ m, 1 ≤ m → mineTo (askAt ys) 3 m = true := by
                intro m hm
                induction m with
                | zero => omega
                | succ m ih =>
                  rcases Nat.lt_or_ge m 1 with h | h
                  · obtain rfl : m = 0 := by omega
                    assumption
                  · simp [mineTo, ih h]
              rw [this _ hpos] at hno
              cases hno
            · have hst := served_step HSV.out hj (fun i hi => hbest i hi (HSV.out.fine.one i hi).1)
              have hpb := HSV.out.fine.one j hj
              have hbd := HSV.out.bound
              have hdue : dueB (askAt ys (oldestTo (askAt ys) ys.length)).born 5 1 = false := by
                rw [(HSV.out.fine.one _ (oldestTo_lt _ _ hpos)).2.1]; decide
              have HN := Lib.hid (nextOf_meet (g := fun _ => ⟨3, hp⟩) (m := 1) hdue (k := 0) (by omega) rfl ha)
              have HST := Lib.hid hst
              have HPB := Lib.hid hpb
              have hp0 : 0 ≤ (askAt ys j).pos := hpb.2.2.1
              have hp1 : (askAt ys j).pos ≤ 255 := hpb.2.2.2
              clear ha hst hbest hdue hpb
              have hlow : (from_ ≤ (askAt ys j).pos ∧ low = false ∧ last < (askAt ys j).pos) ∨ ((askAt ys j).pos < from_ ∧ low = false) ∨ ((askAt ys j).pos < from_ ∧ low = true ∧ last < (askAt ys j).pos) := by
                rcases Int.lt_or_le (askAt ys j).pos from_ with h | h
                · cases low
                  · exact .inr (.inl ⟨h, rfl⟩)
                  · exact .inr (.inr ⟨h, rfl, (HST.out.2 h).1 rfl⟩)
                · exact .inl ⟨h, (HST.out.1 h).1, (HST.out.1 h).2.1⟩
              have hj1 : decide ((j : Int) < 0) = false := by simp
              have hj2 : decide (ys.length ≤ j) = false := by simp; omega
              have u9 : decide ((askAt ys j).pos ≤ -1) = false := by simp; omega
              rcases hlow with ⟨t1, rfl, t2⟩ | ⟨t1, rfl⟩ | ⟨t1, rfl, t2⟩
              all_goals
                first
                | (have HSN := Lib.hid (HST.out.1 t1).2.2
                   have u1 : decide ((askAt ys j).pos < from_) = false := by simp; omega
                   have u2 : decide ((askAt ys j).pos ≤ last) = false := by simp; omega)
                | (have HSN := Lib.hid (HST.out.2 t1).2
                   have u1 : decide ((askAt ys j).pos < from_) = true := by simpa using t1
                   have u3 : decide (from_ ≤ (askAt ys j).pos) = false := by simp; omega
                   have u2 : decide ((askAt ys j).pos ≤ last) = false := by simp; omega)
                | (have HSN := Lib.hid (HST.out.2 t1).2
                   have u1 : decide ((askAt ys j).pos < from_) = true := by simpa using t1
                   have u3 : decide (from_ ≤ (askAt ys j).pos) = false := by simp; omega)
                clear t1
                try clear t2
                rcases Decidable.em (cap2 = j + 1) with hce | hce
              all_goals
                go_wp2_with (first
                  | (go_at_call 9
                     refine (next_any g2 0 ys.length _ (askAt ys) _ 1 1 (fun _ => ⟨3, hp⟩) 5 1 _ (by omega) (by omega) hpos (by simp; omega) (by exact own_asksAt (HO2.out.alloc _) rfl) (.inr ⟨wr.heap.size, 0, rfl, by simp, by exact hd_new _ _ _⟩)).mono ?_
                     rintro e w3 ⟨rfl, hb3⟩
                     rw [HN.out]
                     have HO3 := Lib.hid (own_kept HO2.out ((hb3.block g2 (by simp; omega)).trans (Below.heap_alloc _ _ _ hgl2)))
                     have HK3 := Lib.hid ((HBK.out.alloc _).below hb3 (by simp; omega))
                     obtain ⟨_, _, _, g3, _, _⟩ := own_asks HO3.out rfl
                     have k0 : w3.cell? ⟨wo.heap.size, 0, none⟩ = some (.int .i64 3) := HK3.out.cell 0
                     have k1 : w3.cell? ⟨wo.heap.size, 1, none⟩ = some (.int .i64 hp) := HK3.out.cell 1
                     have k2 : w3.frozen? ⟨wo.heap.size, 1, none⟩ = false := HK3.out.free 1
                     have hz3 : wr.heap.size + 1 ≤ w3.heap.size := by have := hb3.size; simpa using this
                     have HBB := Lib.hid ((HB2.out.alloc hsz2 _).trans (hb3.mono (by simp; omega)))
                     have hne3 : w3.heap.size ≠ g2 := by omega
                     have hnw3 : w3.heap.size ≠ wo.heap.size := by omega
                     clear hb3)
                  | (at_builtin
                     refine wpList_append_live _ rfl (.tmp 113) (.tmp 116) 22 rfl w.heap.size 32 i0 _ 6 48 Try.underlying22 hi0 hz0 hz1 hz2 rfl (by omega) w3.heap.size 0 0 [] rfl (by exact own_none _ (size_set _ _ _).symm (by omega)) g2 0 j _ (rowVals (ys.take j)) rfl (by rw [rowVals_length, List.length_take]; omega) (by exact own_src (own_kept HO3.out ((Below.heap_alloc _ _ _ (by rw [size_set]; omega)).trans (Below.heap_setCell _ _ _ _ hne))) 0 j _ (fun q u hu => take_get hu)) (rowVals_one _) (by simp only [maxLen]; omega) (by omega) (by rw [World.size_alloc, size_set]; omega) ?_
                     intro g4 cap4 w4 hown4 hgr4 hat4 hlt4
                     have hz4 : w3.heap.size + 1 ≤ w4.heap.size := by have := hgr4.size; rw [World.size_alloc, size_set] at this; exact this
                     have hg4 : w3.heap.size ≤ g4 := by rcases hat4 with h | h; · omega
                                                        · rw [World.size_alloc, size_set] at h; omega
                     have HO4 := Lib.hid (own_kept HO3.out (((hgr4.block g2 (by rw [World.size_alloc, size_set]; omega) (fun e => hne3 (Option.some.inj e).symm)).trans (Below.heap_alloc _ _ _ (by rw [size_set]; omega))).trans (Below.heap_setCell _ _ _ _ hne)))
                     have HK4 := Lib.hid (((HK3.out.store 1 (.int .i64 ((askAt ys j).pos + 1))).alloc _).grown hgr4 (fun e => hnw3 (Option.some.inj e)))
                     have HB4 := Lib.hid (((HBB.out.setCell (p := ⟨wo.heap.size, 1, none⟩) hsz _).alloc (by rw [size_set]; omega) _).grown hgr4 (by rw [World.size_alloc, size_set]; omega) (fun q hq => by have e : w3.heap.size = q := Option.some.inj hq; omega))
                     have HJ : Hid (w4.ownsRow w.heap.size 32 6 (.slice (some ⟨g4, 0, none⟩) j cap4) j (rowVals (ys.take j))) := by
                       have h := hown4
                       rw [Nat.zero_add, List.nil_append] at h
                       exact h
                     clear hgr4 hat4 hown4)
                  | (at_builtin
                     refine wpList_append_live _ rfl (.tmp 118) (.tmp 122) 22 rfl w.heap.size 32 i0 _ 6 48 Try.underlying22 hi0 hz0 hz1 hz2 rfl (by omega) g4 j cap4 (rowVals (ys.take j)) rfl HJ.out g2 ((j + 1) * 6) (ys.length - (j + 1)) _ (rowVals (ys.drop (j + 1))) rfl (by rw [rowVals_length, List.length_drop]) (by exact own_src HO4.out ((j + 1) * 6) _ _ (fun q u hu => drop_get hu)) (rowVals_one _) (by simp only [maxLen]; omega) (by omega) (by omega) ?_
                     intro g5 cap5 w5 hown5 hgr5 hat5 hlt5
                     have hz5 : w4.heap.size ≤ w5.heap.size := hgr5.size
                     have hg5 : w3.heap.size ≤ g5 := by omega
                     have e5 : (less ys j).length = j + (ys.length - (j + 1)) := by rw [less_length hj]; omega
                     have HO5 : Hid (w5.ownsRow w.heap.size 32 6 (.slice (some ⟨g5, 0, none⟩) (less ys j).length cap5) (less ys j).length (rowVals (less ys j))) := by
                       rw [e5, show rowVals (less ys j) = rowVals (ys.take j) ++ rowVals (ys.drop (j + 1)) from List.flatMap_append]
                       exact hown5
                     have E5 := Lib.hid e5
                     have HK5 := Lib.hid (HK4.out.grown hgr5 (fun e => by have := Option.some.inj e; omega))
                     have HB5 := Lib.hid (HB4.out.grown hgr5 (by omega) (fun q hq => by have e : g4 = q := Option.some.inj hq; omega))
                     clear hgr5 hat5 hown5 e5)
                  | (at_builtin
                     go_must (refine wpList_append_live _ rfl (.tmp 118) (.tmp 122) 22 rfl w.heap.size 32 i0 _ 6 48 Try.underlying22 hi0 hz0 hz1 hz2 rfl (by omega) g4 j cap4 (rowVals (ys.take j)) rfl HJ.out g2 0 (ys.length - (j + 1)) _ (rowVals (ys.drop (j + 1))) rfl (by rw [rowVals_length, List.length_drop]) (.inl ⟨by omega, by rw [List.drop_of_length_le (by omega)]; rfl⟩) (rowVals_one _) (by simp only [maxLen]; omega) (by omega) (by omega) ?_)
                     intro g5 cap5 w5 hown5 hgr5 hat5 hlt5
                     have hz5 : w4.heap.size ≤ w5.heap.size := hgr5.size
                     have hg5 : w3.heap.size ≤ g5 := by omega
                     have e5 : (less ys j).length = j + (ys.length - (j + 1)) := by rw [less_length hj]; omega
                     have HO5 : Hid (w5.ownsRow w.heap.size 32 6 (.slice (some ⟨g5, 0, none⟩) (less ys j).length cap5) (less ys j).length (rowVals (less ys j))) := by
                       rw [e5, show rowVals (less ys j) = rowVals (ys.take j) ++ rowVals (ys.drop (j + 1)) from List.flatMap_append]
                       exact hown5
                     have E5 := Lib.hid e5
                     have HK5 := Lib.hid (HK4.out.grown hgr5 (fun e => by have := Option.some.inj e; omega))
                     have HB5 := Lib.hid (HB4.out.grown hgr5 (by omega) (fun q hq => by have e : g4 = q := Option.some.inj hq; omega))
                     clear hgr5 hat5 hown5 e5))
                all_goals
                  go_roundw
                  case rel => exact ⟨less ys j, g5, cap5, (askAt ys j).pos + 1, (askAt ys j).pos, _, by rw [E5.out], rfl, rfl, HSN.out, by rw [E5.out]; omega, by omega, by omega, HO5.out, HK5.out, HB5.out⟩
                  case measure => simp [sliceLen]; omega
          · have hy0 : ys.length = 0 := by omega
            have HY := Lib.hid hy0
            clear hy0
            go_wp2_with (first
              | (go_at_call 11; refine (awake_any _).mono ?_; rintro e w5 ⟨rfl, hbx⟩))
            go_ret
            exact ⟨rfl, HB2.out.trans (hbx.mono HB2.out.size)⟩
end Go.Proofs.Ythnjakmiknaihaa
