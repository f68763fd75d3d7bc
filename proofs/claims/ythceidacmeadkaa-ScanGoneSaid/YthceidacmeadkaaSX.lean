/- With a tomb of the greatest generation its key has no entry: the walk. No condition beyond those that each theorem states. -/
import Derived.Test.YthceidacmeadkaaSV
import Derived.Test.YthceidacmeadkaaSW
namespace Go.Proofs.Ythceidacmeadkaa
open Go.RowKit Go.Maps Go.WideMaps Go.Sort
attribute [local go_sem] Oper.semAt_some

theorem src_dropA {w : World} {A : Option Addr} {P : List FoundP} {k c n : Nat} (hn : P.length = n) (h : SrcAt w A n (foundVals P)) (hc : n ≤ c) : SrcAt w (if c = k then A else Option.map (fun x => x.add (k * 12)) A) (n - k) (foundVals (P.drop k)) := by
  by_cases h0 : n - k = 0
  · refine .inl ⟨h0, ?_⟩
    rw [List.drop_of_length_le (by omega)]
    rfl
  · rw [if_neg (by omega)]
    rcases h with ⟨h1, _⟩ | ⟨b, off, rfl, h2⟩
    · omega
    · refine .inr ⟨b, off + k * 12, by rw [Option.map_some, add_plain], fun j u hu => ?_⟩
      rw [show foundVals (P.drop k) = (foundVals P).drop (k * 12) from flat_drop (vals := fun p : FoundP => (foundCells p).toList) (k := 12) (fun _ => rfl) P k, List.getElem?_drop] at hu
      rw [Nat.add_assoc]
      exact h2 _ _ hu
theorem own_al0 {W wz : World} {base size : Nat} {t : TypeId} (h : W.alloc (.cells #[] t) = wz) (hb : base ≤ W.heap.size) : wz.ownsRow base t size (.slice (some ⟨W.heap.size, 0, none⟩) 0 0) 0 [] := h ▸ own_made W t size rfl hb
theorem blk_al0 {W wz : World} {t : TypeId} {cs : Array Value} (h : W.alloc (.cells cs t) = wz) : Blk wz W.heap.size t cs := h ▸ Blk.made _ _ _
theorem bel_al0 {W wz : World} {o : Obj} (h : W.alloc o = wz) : Below W.heap.size W wz := h ▸ below_al _ _
theorem below_dr {B : Nat} {a w : World} (h : Below B a w) : Below B a w.drew := ⟨h.os, h.tape, h.output, h.size, h.block⟩
theorem ent_info : (Try.prog.info? 32).map (fun i => (i.zero, i.size, i.bytes)) = some (some (.agg #[.string ⟨#[]⟩, .int .i64 0, .int .i64 0, .string ⟨#[]⟩, .slice none 0 0]), 5, 72) := by kernel_rfl
theorem entP_one (q : EntP) : ∀ u ∈ q.cells, u.oneCell' = true := by
  intro u hu
  simp only [EntP.cells, List.mem_cons, List.not_mem_nil, or_false] at hu
  rcases hu with rfl | rfl | rfl | rfl | rfl <;> rfl
theorem entPVals_snoc (l : List EntP) (r : EntP) : entPVals (l ++ [r]) = entPVals l ++ r.cells := by simp [entPVals]
theorem gen_most {L : List FoundP} (hok : ∀ p ∈ L, okF p = true) : withinV (mostV L) 1099511627776 = true := by
  have h0 := most_nonneg L
  have h1 : mostV L ≤ 1099511627776 := by
    rcases most_is L with h | ⟨p, hp, h⟩
    · omega
    · rw [h]
      have hg := ok_good (hok p hp)
      unfold goodV at hg
      split at hg
      · simp only [Bool.and_eq_true, decide_eq_true_eq] at hg; omega
      · split at hg
        · simp only [withinV, Bool.and_eq_true, decide_eq_true_eq] at hg; omega
        · split at hg
          · simp only [withinV, Bool.and_eq_true, decide_eq_true_eq] at hg; omega
          · cases hg
  simp only [withinV, Bool.and_eq_true, decide_eq_true_eq]
  exact ⟨h0, h1⟩
set_option maxHeartbeats 8000000 in
set_option maxRecDepth 100000 in
theorem gone_walk (A : Option Addr) (n c : Nat) (G : Nat → FoundP) (key : Str) (x : Nat) (w : World) (hx : x < 256) (_ : key.length ≤ maxLen) (hnc : n ≤ c) (hcm : c ≤ maxLen) (hin : FoundsIn w A n G) :
    Calls Try.prog 6 #[.slice A n c, strV key, .int .u8 (x : Int)] w fun e w' => e = .returned (.bool true) ∧ Below w.heap.size w w' := by
  obtain ⟨i0, hi0, hz0, hz1, hz2⟩ := info_parts found_info
  obtain ⟨P0, hP0, hS0⟩ := founds_list hin
  have hAf : n = 0 ∨ ∃ b off, A = some ⟨b, off, none⟩ := by
    rcases hin with h | ⟨b, off, h, _⟩
    · exact .inl h
    · exact .inr ⟨b, off, h⟩
  have FW := Lib.hid (fun W => sFew A n c hnc hcm W hAf)
  obtain ⟨n2, hn2⟩ : ∃ z, min n 130 = z := ⟨_, rfl⟩
  obtain ⟨P, hP⟩ : ∃ P, P0.take n2 = P := ⟨_, rfl⟩
  have hPl : P.length = n2 := by rw [← hP, List.length_take]; omega
  have S0 := Lib.hid (show SrcAt w A n2 (foundVals P) by have h := src_take (P := P0) (k := n2) (by omega) (hP0.symm ▸ hS0); rw [hP, hPl] at h; exact h)
  have HPL := Lib.hid hPl
  have hAf2 := Lib.hid (show A = none → n2 = 0 from fun h => by rcases hAf with h0 | ⟨b, off, hb⟩; omega; rw [h] at hb; cases hb)
  have hn60 : n2 ≤ 130 := by omega
  have hn2c : n2 ≤ c := by omega
  rw [hn2] at FW
  obtain ⟨L, hL⟩ : ∃ L, P.filter okF = L := ⟨_, rfl⟩
  have hok : ∀ p ∈ L, okF p = true := fun p hp => by rw [← hL] at hp; exact (List.mem_filter.1 hp).2
  have HOK := Lib.hid hok
  have HL := Lib.hid hL
  clear hP0 hS0 hP hPl hL hok hAf hin hn2
  go_enter Try.func6, Try.ntmps6
  go_upto_region 2 with (go_at_call 9; (refine (FW.out _).mono ?_; rintro e w2 ⟨rfl, rfl⟩))
  clear FW
  by_cases h1 : key.length < 1
  · have f1 : decide (key.length < 1) = true := decide_eq_true h1
    have f2 : decide ((key.length : Int) < 1) = true := decide_eq_true (by omega)
    go_wp2_with (go_at_call 12; (refine (sAwake _).mono ?_; rintro e w8 ⟨rfl, hb8⟩; have B8 := Lib.hid hb8; clear hb8))
    go_ret
    exact ⟨rfl, B8.out⟩
  have f1 : decide (key.length < 1) = false := decide_eq_false h1
  have f2 : decide ((key.length : Int) < 1) = false := decide_eq_false (by omega)
  by_cases h2 : 16 < key.length
  · have f3 : decide (16 < key.length) = true := decide_eq_true h2
    have f4 : decide ((16 : Int) < (key.length : Int)) = true := decide_eq_true (by omega)
    go_wp2_with (go_at_call 12; (refine (sAwake _).mono ?_; rintro e w8 ⟨rfl, hb8⟩; have B8 := Lib.hid hb8; clear hb8))
    go_ret
    exact ⟨rfl, B8.out⟩
  have f3 : decide (16 < key.length) = false := decide_eq_false h2
  have f4 : decide ((16 : Int) < (key.length : Int)) = false := decide_eq_false (by omega)
  have SB := Lib.hid (show Calls Try.prog 10 #[.slice A n2 c] w fun e w' => ∃ B EP bs, e = .returned (.tuple #[.slice B EP.length EP.length, .int .i64 (mostV L)]) ∧ BestV L bs ∧ EntsRd w' B EP.length EP ∧ EP.map entK = bs.map (fun b => (b.key, (⟨b.gen, b.size, b.sum, placesOf L b⟩ : EntV))) ∧ EP.length ≤ n2 ∧ Below w.heap.size w w' from by
    have h := sBestL A c P w (by rw [HPL.out]; exact S0.out) (by rw [HPL.out]; omega)
    rw [HPL.out, HL.out] at h
    refine h.mono ?_
    rintro e w' ⟨B, es, rfl, hl, hr⟩
    exact ⟨B, es.map (entP L), es.map CopyE.b, by rw [List.length_map], hr.best, by rw [List.length_map]; exact best_rd HOK.out hr (by omega), by rw [List.map_map, List.map_map]; rfl, by rw [List.length_map]; exact hl, hr.base⟩)
  go_upto_region 5 with (go_at_call 10; (refine (SB.out).mono ?_; rintro e w3 ⟨Ba, EA, bs, rfl, hbs, hrd, hek, hel, hb⟩; have BS := Lib.hid hbs; have RA3 := Lib.hid hrd; have EK := Lib.hid hek; have B3 := Lib.hid hb; have S3 := Lib.hid (src_below S0.out hb); clear hbs hrd hek hb))
  clear SB S0
  have hw3 : w.heap.size ≤ w3.heap.size := B3.out.size
  go_upto_if 34 with fail
  go_cut [10] from 32 to 39 (fun kv wx => ∃ k : Nat, kv = .int .i64 (k : Int) ∧ k ≤ n2 ∧ Below w3.heap.size w3 wx)
  case first =>
    by_cases h0 : 0 < n2
    · have e1 : decide (0 < n2) = true := decide_eq_true h0
      have e2 : decide ((0 : Int) < (n2 : Int)) = true := decide_eq_true (by omega)
      have e3 : ((n2 : Int) == 0) = false := by simp; omega
      have e4 : ¬ (n2 : Int) = 0 := by omega
      have e5 : ¬ n2 = 0 := by omega
      have e6 : IntKind.i64.wrap ((x : Int) % (n2 : Int)) = ((x % n2 : Nat) : Int) := by rw [IntWalk.i64_in _ (by have := Int.emod_lt_of_pos (x : Int) (show (0 : Int) < (n2 : Int) by omega); have := Int.emod_nonneg (x : Int) e4; omega)]; omega
      go_wp2_with fail
      go_meet
      exact ⟨x % n2, rfl, Nat.le_of_lt (Nat.mod_lt _ h0), Below.refl _ _⟩
    · have e1 : decide (0 < n2) = false := decide_eq_false h0
      have e2 : decide ((0 : Int) < (n2 : Int)) = false := decide_eq_false (by omega)
      go_wp2_with fail
      go_meet
      exact ⟨0, rfl, Nat.zero_le _, Below.refl _ _⟩
  case rest =>
    obtain ⟨k, rfl, hk, hbc⟩ := hcut
    obtain ⟨w4, rfl⟩ : ∃ w4 : World, w4 = wc := ⟨_, rfl⟩
    have B4 := Lib.hid (show Below w.heap.size w w4 from B3.out.trans (hbc.mono hw3))
    have S4 := Lib.hid (src_below S3.out hbc)
    have RA4 := Lib.hid (RA3.out.below hbc)
    have hw4 : w.heap.size ≤ w4.heap.size := B4.out.size
    clear hbc S3 RA3
    obtain ⟨m, hm⟩ : ∃ z, mostV L = z := ⟨_, rfl⟩
    have HM := Lib.hid hm
    rw [hm]
    clear hm
    obtain ⟨t, ht⟩ : ∃ t : FoundP, tombP key m = t := ⟨_, rfl⟩
    have HT := Lib.hid ht
    clear ht
    go_upto_region 8 with fail
    go_cut [11] from 40 to 53 (fun v wx => ∃ D d, v = .slice D (n2 + 1) d ∧ SrcAt wx D (n2 + 1) (foundVals (P.take k ++ [t] ++ P.drop k)) ∧ Below w4.heap.size w4 wx)
    case first =>
      have TM := Lib.hid (show ∀ W, Calls Try.prog 16 #[strV key, .int .i64 m] W fun e w' => e = .returned (.agg #[.int .i64 31, .int .i64 1, .int .i64 3, .int .i64 0, strV key, .int .i64 m, .int .i64 0, .int .i64 0, .int .i64 0, .int .i64 0, strV [], .slice none 0 0]) ∧ Below W.heap.size W w' from fun W => sTomb key m W)
      have BW := Lib.hid (Below.refl w4.heap.size w4)
      have hkc : k ≤ c := by omega
      have SD := Lib.hid (src_dropA (k := k) HPL.out S4.out hn2c)
      have hAd := Lib.hid (show (if c = k then A else Option.map (fun x => x.add (k * 12)) A) = none → n2 - k = 0 from fun h => by
        by_cases hck : c = k
        · omega
        · rw [if_neg hck] at h
          have := hAf2.out (Option.map_eq_none_iff.1 h)
          omega)
      obtain ⟨A2, hA2⟩ : ∃ z, (if c = k then A else Option.map (fun x => x.add (k * 12)) A) = z := ⟨_, rfl⟩
      rw [hA2] at SD hAd
      have HA2 := Lib.hid hA2
      clear hA2
      have hkci : (k : Int) ≤ (c : Int) := by omega
      have hk0 : (0 : Int) ≤ (k : Int) := by omega
      have hkn : (k : Int) ≤ (n2 : Int) := by omega
      have hnci : (n2 : Int) ≤ (c : Int) := by omega
      have hAk := Lib.hid (show A = none → k = 0 from fun h => by have := hAf2.out h; omega)
      have SK := Lib.hid (show SrcAt w4 A k (foundVals (P.take k)) by have h := src_take (P := P) (k := k) (by rw [HPL.out]; exact hk) (by rw [HPL.out]; exact S4.out); rw [List.length_take, HPL.out, Nat.min_eq_left hk] at h; exact h)
      refine wp_region_held_drew (S := (fun _ => True)) (by kernel_rfl) trivial (fun hHeld => ?_)
      refine wpAnyH_take (i := 1) (v := ?vX8n11) (take_list rfl) (by kernel_rfl) (by kernel_rfl) (by kernel_rfl) (fun _ _ _ h => h) (Or.inl ⟨by rfl, ?hyX8n11⟩) (by assumption) ?restX8n11
      case hyX8n11 => (intro w hSw; (try dsimp only at hSw); go_simp <;> with_reducible rfl)
      try simp only [Act.put, List.setIfInBounds_toArray, List.set_cons_zero, List.set_cons_succ]
      refine wpAnyH_take (i := 2) (v := ?vX8n12) (take_list rfl) (by kernel_rfl) (by kernel_rfl) (by kernel_rfl) (fun _ _ _ h => h) (Or.inl ⟨by rfl, ?hyX8n12⟩) (by assumption) ?restX8n12
      case hyX8n12 => (intro w hSw; (try dsimp only at hSw); go_simp <;> with_reducible rfl)
      try simp only [Act.put, List.setIfInBounds_toArray, List.set_cons_zero, List.set_cons_succ]
      refine wpAnyH_take (i := 3) (v := ?vX8n13) (take_list rfl) (by kernel_rfl) (by kernel_rfl) (by kernel_rfl) (fun _ _ _ h => h) (Or.inl ⟨by rfl, ?hyX8n13⟩) (by assumption) ?restX8n13
      case hyX8n13 => (intro w hSw; (try dsimp only at hSw); go_simp <;> with_reducible rfl)
      try simp only [Act.put, List.setIfInBounds_toArray, List.set_cons_zero, List.set_cons_succ]
      refine wpAnyH_take (i := 5) (v := ?vX8n15) (take_list rfl) (by kernel_rfl) (by kernel_rfl) (by kernel_rfl) (fun _ _ _ h => h) (Or.inl ⟨by rfl, ?hyX8n15⟩) (by assumption) ?restX8n15
      case hyX8n15 => (intro w hSw; (try dsimp only at hSw); go_simp <;> with_reducible rfl)
      try simp only [Act.put, List.setIfInBounds_toArray, List.set_cons_zero, List.set_cons_succ]
      refine wpAnyH_take (i := 6) (v := ?vX8n16) (take_list rfl) (by kernel_rfl) (by kernel_rfl) (by kernel_rfl) (fun _ _ _ h => h) (Or.inl ⟨by rfl, ?hyX8n16⟩) (by assumption) ?restX8n16
      case hyX8n16 => (intro w hSw; (try dsimp only at hSw); go_simp <;> with_reducible rfl)
      try simp only [Act.put, List.setIfInBounds_toArray, List.set_cons_zero, List.set_cons_succ]
      refine wpAnyH_take (i := 10) (v := ?vX8n110) (take_list rfl) (by kernel_rfl) (by kernel_rfl) (by kernel_rfl) (fun _ _ _ h => h) (Or.inl ⟨by rfl, ?hyX8n110⟩) (by assumption) ?restX8n110
      case hyX8n110 => (intro w hSw; (try dsimp only at hSw); go_simp <;> with_reducible rfl)
      try simp only [Act.put, List.setIfInBounds_toArray, List.set_cons_zero, List.set_cons_succ]
      refine wpAnyH_take (i := 11) (v := ?vX8n111) (take_list rfl) (by kernel_rfl) (by kernel_rfl) (by kernel_rfl) (fun _ _ _ h => h) (Or.inl ⟨by rfl, ?hyX8n111⟩) (by assumption) ?restX8n111
      case hyX8n111 => (intro w hSw; (try dsimp only at hSw); go_simp <;> with_reducible rfl)
      try simp only [Act.put, List.setIfInBounds_toArray, List.set_cons_zero, List.set_cons_succ]
      refine wpAnyH_take (i := 12) (v := Value.slice A2 (n2 - k) (c - k)) (take_list rfl) (by kernel_rfl) (by kernel_rfl) (by kernel_rfl) (fun _ _ _ h => h) (Or.inl ⟨by rfl, ?hyX8n112⟩) (by assumption) ?restX8n112
      case hyX8n112 => (intro w hSw; rw [← HA2.out]; by_cases hck : c = k; (rw [if_pos hck]; subst hck; go_simp); (rw [if_neg hck]; rcases A with _ | ⟨ab, ao, ai⟩ <;> go_simp <;> (first | rfl | simp [hck])))
      try simp only [Act.put, List.setIfInBounds_toArray, List.set_cons_zero, List.set_cons_succ]
      refine wpAnyH_ready (rs := [0]) (by kernel_rfl) (by simp) ?_
      refine AllReadyH.cons rfl (fun K hK => ?_) AllReadyH.nil
      (go_simp; generalize hwz : World.alloc _ _ = wz; have hkz := bel_al0 hwz; have OX := Lib.hid (own_al0 (base := w4.heap.size) (size := 12) hwz BW.out.size); have BW := Lib.hid (show Below w4.heap.size w4 wz from below_then BW.out hkz); clear hkz hwz)
      clear hHeld
      refine hK.out _ _ trivial (fun hHeld => ?_)
      clear hK K
      refine wpAnyH_ready (rs := [4]) (by kernel_rfl) (by simp) ?_
      refine AllReadyH.cons rfl (fun K hK => ?_) AllReadyH.nil
      (refine step_append_src _ rfl (.tmp 40) (.tmp 43) 22 rfl w4.heap.size 39 i0 _ 12 128 Try.underlying22 hi0 hz0 hz1 hz2 rfl (by omega) _ 0 [] rfl (by exact OX.out) A k _ (foundVals (P.take k)) rfl (by rw [foundVals_len, List.length_take, HPL.out]; omega) hAk.out (by first | exact src_below SK.out BW.out | exact src_below SK.out (below_dr BW.out)) (found_one _) (by simp only [maxLen]; omega) (by omega) (by exact BW.out.size) ?_; intro va wz hown hgr hat; have BW := Lib.hid (show Below w4.heap.size w4 wz from by first | exact grown_e BW.out hgr (fun q hq => (OX.out.lt q hq).1) | exact grown_e (below_dr BW.out) hgr (fun q hq => (OX.out.lt q hq).1)); have OX := Lib.hid hown; clear hown hgr hat; go_simp)
      clear hHeld
      refine hK.out _ _ trivial (fun hHeld => ?_)
      clear hK K
      refine wpAnyH_ready (rs := [7]) (by kernel_rfl) (by simp) ?_
      refine AllReadyH.cons rfl (fun K hK => ?_) AllReadyH.nil
      go_simp
      go_wp2_with (go_at_call 16; refine (TM.out _).mono ?_; rintro e wz ⟨rfl, hb⟩; have hkz := (show Below _ _ wz from by first | exact below_of_drew hb | exact hb); have OX := Lib.hid (own_of_eq OX.out (fun g1 hg1 => hkz.block g1 (OX.out.lt g1 hg1).2)); have BW := Lib.hid (show Below w4.heap.size w4 wz from below_then BW.out hkz); clear hkz hb)
      clear hHeld
      refine hK.out _ _ trivial (fun hHeld => ?_)
      clear hK K
      refine wpAnyH_ready (rs := [8]) (by kernel_rfl) (by simp) ?_
      refine AllReadyH.cons rfl (fun K hK => ?_) AllReadyH.nil
      (go_simp; generalize hwz : World.alloc _ _ = wz; have hkz := bel_al0 hwz; have RX := Lib.hid (blk_al0 hwz); have OX := Lib.hid (own_of_eq OX.out (fun g1 hg1 => hkz.block g1 (OX.out.lt g1 hg1).2)); have BW := Lib.hid (show Below w4.heap.size w4 wz from below_then BW.out hkz); clear hkz hwz)
      clear hHeld
      refine hK.out _ _ trivial (fun hHeld => ?_)
      clear hK K
      refine wpAnyH_ready (rs := [9]) (by kernel_rfl) (by simp) ?_
      refine AllReadyH.cons rfl (fun K hK => ?_) AllReadyH.nil
      (refine step_append_src _ rfl (.tmp 44) (.tmp 48) 22 rfl w4.heap.size 39 i0 _ 12 128 Try.underlying22 hi0 hz0 hz1 hz2 rfl (by omega) _ (0 + k) ([] ++ foundVals (P.take k)) rfl (by exact OX.out) _ 1 1 (foundCells (tombP key m)).toList rfl rfl (fun e => by cases e) (by exact src_blk RX.out) (foundCells_one _) (by simp only [maxLen]; omega) (by omega) (by exact BW.out.size) ?_; intro va wz hown hgr hat; have BW := Lib.hid (show Below w4.heap.size w4 wz from by first | exact grown_e BW.out hgr (fun q hq => (OX.out.lt q hq).1) | exact grown_e (below_dr BW.out) hgr (fun q hq => (OX.out.lt q hq).1)); have OX := Lib.hid hown; clear hown hgr hat; go_simp)
      clear hHeld
      refine hK.out _ _ trivial (fun hHeld => ?_)
      clear hK K
      refine wpAnyH_ready (rs := [13]) (by kernel_rfl) (by simp) ?_
      refine AllReadyH.cons rfl (fun K hK => ?_) AllReadyH.nil
      (refine step_append_src _ rfl (.tmp 49) (.tmp 52) 22 rfl w4.heap.size 39 i0 _ 12 128 Try.underlying22 hi0 hz0 hz1 hz2 rfl (by omega) _ (0 + k + 1) ([] ++ foundVals (P.take k) ++ (foundCells (tombP key m)).toList) rfl (by exact OX.out) A2 (n2 - k) _ (foundVals (P.drop k)) rfl (by rw [foundVals_len, List.length_drop, HPL.out]) hAd.out (by first | exact src_below SD.out BW.out | exact src_below SD.out (below_dr BW.out)) (found_one _) (by simp only [maxLen]; omega) (by omega) (by exact BW.out.size) ?_; intro va wz hown hgr hat; have BW := Lib.hid (show Below w4.heap.size w4 wz from by first | exact grown_e BW.out hgr (fun q hq => (OX.out.lt q hq).1) | exact grown_e (below_dr BW.out) hgr (fun q hq => (OX.out.lt q hq).1)); have OX := Lib.hid hown; clear hown hgr hat; go_simp)
      clear hHeld
      refine hK.out _ _ trivial (fun hHeld => ?_)
      clear hK K
      refine wpAnyH_take (i := 14) (v := ?vX8n114) (take_list rfl) (by kernel_rfl) (by kernel_rfl) (by kernel_rfl) (fun _ _ _ h => h) (Or.inl ⟨by rfl, ?hyX8n114⟩) (by assumption) ?restX8n114
      case hyX8n114 => (intro w hSw; (try dsimp only at hSw); go_simp <;> with_reducible rfl)
      refine wpAnyH_done (by kernel_rfl) ?_ _
      have OXX := OX.out
      rw [show 0 + k + 1 + (n2 - k) = n2 + 1 by omega, show [] ++ foundVals (P.take k) ++ (foundCells (tombP key m)).toList ++ foundVals (P.drop k) = foundVals (P.take k ++ [t] ++ P.drop k) from by rw [foundVals_app, foundVals_app, ← HT.out]; simp [foundVals]] at OXX
      obtain ⟨D, d, rfl, _, _, _, hsq, _⟩ := own_srcv OXX (fun h => by omega)
      have SQ0 := Lib.hid hsq
      clear OXX hsq
      go_wp2_with fail
      go_meet
      exact ⟨D, d, rfl, SQ0.out, BW.out⟩
    case rest =>
      obtain ⟨D, d, rfl, hsq, hbd⟩ := hcut
      obtain ⟨w5, rfl⟩ : ∃ w5 : World, w5 = wc := ⟨_, rfl⟩
      have SQ := Lib.hid hsq
      have B45 := Lib.hid hbd
      clear hsq hbd
      have ST := Lib.hid (show Calls Try.prog 10 #[.slice D (n2 + 1) d] w5 fun e w' => ∃ B EP, e = .returned (.tuple #[.slice B EP.length EP.length, .int .i64 m]) ∧ EntsRd w' B EP.length EP ∧ EP.map entK = (bs.filter fun b => !decide (b.key = key)).map (fun b => (b.key, (⟨b.gen, b.size, b.sum, placesOf L b⟩ : EntV))) ∧ Below w5.heap.size w5 w' from by
        obtain ⟨L1, h1⟩ : ∃ z, (P.take k).filter okF = z := ⟨_, rfl⟩
        obtain ⟨L2, h2⟩ : ∃ z, (P.drop k).filter okF = z := ⟨_, rfl⟩
        have hL12 : L = L1 ++ L2 := by rw [← HL.out, ← h1, ← h2, ← List.filter_append, List.take_append_drop]
        have hmm : mostV (L1 ++ L2) = m := by rw [← hL12]; exact HM.out
        have htk : t.r.kind = 3 ∧ t.r.key = key ∧ t.r.gen = m := by rw [← HT.out]; exact ⟨rfl, rfl, rfl⟩
        have hto : okF t = true := by rw [← HT.out, ← HM.out]; exact ok_tomb (by simp only [keyV, Bool.and_eq_true, decide_eq_true_eq]; omega) (gen_most HOK.out)
        have ho : ∀ p ∈ L1 ++ L2, okF p = true := by rw [← hL12]; exact HOK.out
        have ho2 : ∀ p ∈ L1 ++ [t] ++ L2, okF p = true := fun p hp => by
          simp only [List.mem_append, List.mem_singleton] at hp
          rcases hp with (hp | rfl) | hp
          · exact ho p (List.mem_append_left _ hp)
          · exact hto
          · exact ho p (List.mem_append_right _ hp)
        have hb := best_gone ho ho2 htk.1 (htk.2.2.trans hmm.symm) (by rw [← hL12]; exact BS.out)
        rw [htk.2.1] at hb
        exact best_as (P := P.take k ++ [t] ++ P.drop k) (L' := L1 ++ [t] ++ L2) (L := L) (by rw [List.filter_append, List.filter_append, h1, h2]; simp [hto]) hb ((most_gone (htk.2.2.trans hmm.symm)).trans hmm) (fun b => by rw [places_gone htk.1, ← hL12]) ho2 (n2 + 1) (by simp only [List.length_append, List.length_take, List.length_drop, List.length_singleton, HPL.out]; omega) (by omega) w5 D d SQ.out)
      go_upto_region 10 with (go_at_call 10; (refine (ST.out).mono ?_; rintro e w6 ⟨Bb, EB, rfl, hrd, hek, hb⟩; have RB6 := Lib.hid hrd; have EKB := Lib.hid hek; have B46 := Lib.hid (show Below w4.heap.size w4 w6 from B45.out.trans (hb.mono B45.out.size)); clear hrd hek hb))
      clear ST SQ B45
      have RA6 := Lib.hid (RA4.out.below B46.out)
      have B6 := Lib.hid (show Below w.heap.size w w6 from B4.out.trans (B46.out.mono hw4))
      have hw6 : w.heap.size ≤ w6.heap.size := B6.out.size
      obtain ⟨ie, hie, hze0, hze1, hze2⟩ := info_parts ent_info
      have EQ := Lib.hid (show (EA.filter fun r => !decide (r.key = key)).map entK = EB.map entK from by
        have e1 : (EA.filter fun r => !decide (r.key = key)).map entK = (EA.map entK).filter fun q => !decide (q.1 = key) := by rw [List.filter_map]; rfl
        rw [e1, EK.out, EKB.out, List.filter_map]
        rfl)
      go_wp2_with fail
      go_loopw [14, 15] (fun v iv wr => ∃ (i m3 : Nat) (EW : List EntP), iv = .int .i64 (i : Int) ∧ i ≤ EA.length ∧ EW = (EA.take i).filter (fun r => !decide (r.key = key)) ∧ EW.length = m3 ∧ wr.ownsRow w6.heap.size 32 5 v m3 (entPVals EW) ∧ Below w6.heap.size w6 wr) (fun _ iv _ => EA.length - (intOf iv).toNat)
      case atStart => exact ⟨0, 0, [], rfl, Nat.zero_le _, rfl, rfl, own_made _ _ 5 rfl (Nat.le_refl _), (Below.refl _ w6).alloc (Nat.le_refl _) _⟩
      case round =>
        obtain ⟨i, m3, EW, rfl, hi, hew, hm3, hrow, hbl⟩ := hrel
        obtain ⟨wo, rfl⟩ : ∃ wo : World, wo = wr := ⟨_, rfl⟩
        have HEW := Lib.hid hew
        have HM3 := Lib.hid hm3
        have RW := Lib.hid hrow
        have BL := Lib.hid hbl
        have hzo := hbl.size
        have hm31 : m3 ≤ EA.length := by rw [← hm3, hew]; exact Nat.le_trans (List.length_filter_le _ _) (by rw [List.length_take]; omega)
        clear hew hm3 hrow hbl
        obtain ⟨A1, k1, rfl, hn1, hc1, hA1⟩ := own_form RW.out
        by_cases hlt : i < EA.length
        · have e1 : decide (i < EA.length) = true := decide_eq_true hlt
          have e2 : decide ((i : Int) < (EA.length : Int)) = true := decide_eq_true (by omega)
          have e3 : (i : Int) < (EA.length : Int) := by omega
          have e4 : (0 : Int) ≤ (i : Int) := by omega
          have p9 : IntKind.i64.wrap ((i : Int) + 1) = ((i + 1 : Nat) : Int) := by rw [IntWalk.i64_in _ (by omega)]; omega
          obtain ⟨r, hr⟩ : ∃ r, EA[i]? = some r := ⟨_, List.getElem?_eq_getElem hlt⟩
          obtain ⟨b, o, hBa, hc⟩ := src_some RA6.out.row (by omega)
          subst hBa
          have y0 := ent_cel hc hr 0 (by omega) (u := encStr r.key) rfl
          have x0 : wo.cell? ⟨b, o + i * 5, none⟩ = some (encStr r.key) := keepc BL.out (World.block_lt_of_cell? _ _ y0) y0
          have y1 := ent_cel hc hr 1 (by omega) (u := .int .i64 r.e.gen) rfl
          have x1 : wo.cell? ⟨b, o + i * 5 + 1, none⟩ = some (.int .i64 r.e.gen) := keepc BL.out (World.block_lt_of_cell? _ _ y1) y1
          have y2 := ent_cel hc hr 2 (by omega) (u := .int .i64 r.e.size) rfl
          have x2 : wo.cell? ⟨b, o + i * 5 + 2, none⟩ = some (.int .i64 r.e.size) := keepc BL.out (World.block_lt_of_cell? _ _ y2) y2
          have y3 := ent_cel hc hr 3 (by omega) (u := encStr r.e.sum) rfl
          have x3 : wo.cell? ⟨b, o + i * 5 + 3, none⟩ = some (encStr r.e.sum) := keepc BL.out (World.block_lt_of_cell? _ _ y3) y3
          have y4 := ent_cel hc hr 4 (by omega) (u := .slice r.B r.e.places.length r.e.places.length) rfl
          have x4 : wo.cell? ⟨b, o + i * 5 + 4, none⟩ = some (.slice r.B r.e.places.length r.e.places.length) := keepc BL.out (World.block_lt_of_cell? _ _ y4) y4
          clear y0 y1 y2 y3 y4 hc
          have HR := Lib.hid hr
          have TK := Lib.hid (show EA.take (i + 1) = EA.take i ++ [r] by rw [List.take_add_one, hr]; rfl)
          clear hr
          by_cases hk : r.key = key
          · have q1 : (r.key != key) = false := by simpa using hk
            have q2 : (r.key == key) = true := by simpa using hk
            have HKK := Lib.hid hk
            clear hk
            go_wp2_with fail
            go_roundw
            case rel => exact ⟨i + 1, m3, EW, rfl, hlt, by rw [TK.out, List.filter_append, HEW.out]; simp [HKK.out], HM3.out, RW.out, BL.out⟩
            case measure => (simp only [intOf]; omega)
          · have q1 : (r.key != key) = true := by simpa using hk
            have q2 : (r.key == key) = false := by simpa using hk
            have HKK := Lib.hid hk
            clear hk
            go_wp2_with (
              (at_builtin
               refine wpList_append_src _ rfl (.tmp 73) (.tmp 78) 24 rfl w6.heap.size 32 ie _ 5 72 Try.underlying24 hie hze0 hze1 hze2 rfl (by omega) _ _ _ rfl (by exact RW.out.alloc _) (some ⟨wo.heap.size, 0, none⟩) 1 1 r.cells rfl rfl (fun e => by cases e) (by exact src_new _ _ _ _) (entP_one _) (by simp only [maxLen]; omega) (by omega) (by simp; omega) ?_
               intro v' w9 hown9 hgr9 hat9
               rw [← entPVals_snoc] at hown9
               have OW9 := Lib.hid hown9
               have HB9 := Lib.hid ((BL.out.alloc (by omega) _).grown hgr9 (by simp; omega) (fun q hq => (RW.out.lt q hq).1))
               clear hown9 hgr9 hat9))
            go_roundw
            case rel => exact ⟨i + 1, m3 + 1, EW ++ [r], rfl, hlt, by rw [TK.out, List.filter_append, HEW.out]; simp [HKK.out], by rw [List.length_append, HM3.out]; rfl, OW9.out, HB9.out⟩
            case measure => (simp only [intOf]; omega)
        · have e1 : decide (i < EA.length) = false := decide_eq_false hlt
          have e2 : decide ((i : Int) < (EA.length : Int)) = false := decide_eq_false (by omega)
          have HF := Lib.hid (show EW = EA.filter (fun r => !decide (r.key = key)) by rw [HEW.out, List.take_of_length_le (by omega)])
          obtain ⟨_, _, hve, _, _, _, hsr, _⟩ := own_srcv RW.out (fun h => by rw [List.eq_nil_of_length_eq_zero (HM3.out.trans h)]; rfl)
          injection hve with hv1 hv2 hv3
          subst hv1
          have RDW := Lib.hid (show EntsRd wo A1 m3 EW from ⟨HM3.out, hsr, fun r hr => (RA6.out.ok r (by rw [HF.out] at hr; exact (List.mem_filter.1 hr).1)).below BL.out, by simp only [maxLen]; omega⟩)
          clear hsr hv2 hv3
          have RBo := Lib.hid (RB6.out.below BL.out)
          have AL := Lib.hid (show ∀ W, Below wo.heap.size wo W → Calls Try.prog 13 #[.slice Bb EB.length EB.length, .slice A1 m3 k1] W fun e w' => e = .returned (.bool true) ∧ Below W.heap.size W w' from fun W hW => (alike10 Bb EB.length EB.length EB A1 m3 k1 EW W (RBo.out.below hW) (RDW.out.below hW)).mono fun e w' ⟨h1, h2⟩ => ⟨by rw [h1, HF.out, EQ.out]; simp, h2⟩)
          have Bo := Lib.hid (show Below w.heap.size w wo from B6.out.trans (BL.out.mono hw6))
          go_wp2_with (first
              | (go_at_call 12; refine (sAwake _).mono ?_; rintro e wA ⟨rfl, hbA⟩; have B10 := Lib.hid hbA; clear hbA)
              | (go_at_call 13; refine (AL.out _ B10.out).mono ?_; rintro e wB ⟨rfl, hbB⟩; have B11 := Lib.hid (show Below w.heap.size w wB from Bo.out.trans ((B10.out.trans (hbB.mono B10.out.size)).mono Bo.out.size)); clear hbB)
              | fail)
          go_ret
          exact ⟨rfl, B11.out⟩
end Go.Proofs.Ythceidacmeadkaa
