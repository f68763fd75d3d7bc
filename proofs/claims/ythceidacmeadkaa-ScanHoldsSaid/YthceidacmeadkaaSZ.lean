/- What holds of the entries that are found: the walk. No condition beyond those that each theorem states. -/
import Derived.Test.YthceidacmeadkaaSU
import Derived.Test.YthceidacmeadkaaSY
namespace Go.Proofs.Ythceidacmeadkaa
open Go.RowKit Go.Maps Go.WideMaps Go.Sort
attribute [local go_sem] Oper.semAt_some

theorem first_cases (L : List FoundP) (b : BlobV) (s : Nat) : (∃ p ∈ L, isShard b s p = true ∧ firstAt L b s = (p.cart, p.pos)) ∨ firstAt L b s = (0, 1024) := by
  unfold firstAt
  cases h : L.find? (isShard b s) with
  | none => exact .inr rfl
  | some p => exact .inl ⟨p, List.mem_of_find?_eq_some h, List.find?_some h, rfl⟩
theorem any_holds (P : List FoundP) (b : BlobV) (s : Nat) {x y : Int} (hf : firstAt (P.filter okF) b s = (x, y)) :
    P.any (matchB b.key b.gen b.size b.sum x y ((s / 10 : Nat) : Int) ((s % 10 : Nat) : Int)) = thereP (x, y) := by
  rw [Bool.eq_iff_iff, List.any_eq_true]
  constructor
  · rintro ⟨p, _, h⟩
    simp only [matchB, Bool.and_eq_true, decide_eq_true_eq] at h
    simp only [thereP, Bool.not_eq_true', Bool.and_eq_false_iff, decide_eq_false_iff_not]
    exact .inr (by omega)
  · intro h
    rcases first_cases (P.filter okF) b s with ⟨p, hp, hs, he⟩ | he
    · have hq := List.mem_filter.1 hp
      simp only [isShard, Bool.and_eq_true, decide_eq_true_eq] at hs
      obtain ⟨hk, hb, hsl⟩ := hs
      have hfa := shard_facts hq.2 hk
      rw [he] at hf
      have h1 := congrArg Prod.fst hf
      have h2 := congrArg Prod.snd hf
      simp only at h1 h2
      refine ⟨p, hq.1, ?_⟩
      simp only [matchB, Bool.and_eq_true, decide_eq_true_eq]
      exact ⟨h1, h2, hfa.2.2.2.2.2.1, ok_good hq.2, hk, congrArg BlobV.key hb, congrArg BlobV.gen hb, congrArg BlobV.size hb, congrArg BlobV.sum hb, by omega, by omega⟩
    · rw [he] at hf
      have h1 := congrArg Prod.fst hf
      have h2 := congrArg Prod.snd hf
      simp only at h1 h2
      rw [← h1, ← h2] at h
      cases h
def placeV (p : FoundP) : Bool := decide (0 ≤ p.cart) && (decide (p.cart < 32) && (decide (0 ≤ p.pos) && decide (p.pos < 1024)))
theorem ok_of {p : FoundP} (h1 : placeV p = true) (h2 : goodV p.r = true) : okF p = true := by
  unfold okF
  simp only [placeV, Bool.and_eq_true] at h1
  simp [h1.1, h1.2.1, h1.2.2.1, h1.2.2.2, h2]
theorem entVals_get {es : List CopyE} {i : Nat} {e : CopyE} (h : es[i]? = some e) {q : Nat} (hq : q < 5) : (entVals es)[i * 5 + q]? = (entCells e)[q]? := flat_get (vals := entCells) (k := 5) (fun _ => rfl) h hq
def ThereI (ps : List (Int × Int)) (s th : Nat) : Prop := s % 10 = 0 ∨ th = cntTo ps (s / 10) (s % 10)
theorem cnt_le (ps : List (Int × Int)) (j i : Nat) : cntTo ps j i ≤ i := by
  unfold cntTo
  exact Nat.le_trans (List.countP_le_length) (by rw [List.length_take]; omega)
theorem sorted_at {es : List CopyE} (h : (es.map CopyE.b).Pairwise fun a b => a.key < b.key) {i : Nat} {e e0 : CopyE} (h0 : es[i]? = some e0) (h1 : es[i + 1]? = some e) : e0.b.key < e.b.key := by
  have h2 := List.pairwise_iff_getElem.1 h i (i + 1) (by rw [List.length_map]; have := List.getElem?_eq_some_iff.1 h1; exact Nat.lt_of_succ_lt this.1) (by rw [List.length_map]; exact (List.getElem?_eq_some_iff.1 h1).1) (by omega)
  rw [List.getElem_map, List.getElem_map] at h2
  rw [(List.getElem?_eq_some_iff.1 h0).2, (List.getElem?_eq_some_iff.1 h1).2] at h2
  exact h2
theorem best_ent {L : List FoundP} (hok : ∀ p ∈ L, okF p = true) {es : List CopyE} (hb : BestV L (es.map CopyE.b)) {e : CopyE} (he : e ∈ es) :
    e.b.gen ≤ mostV L ∧ (∃ q, slotsB e.b = q * 10 ∧ 1 ≤ q ∧ q ≤ 4) ∧ (∀ p ∈ L, p.r.kind = 3 → p.r.key = e.b.key → p.r.gen < e.b.gen) ∧ 8 ≤ poorV (placesOf L e.b) := by
  obtain ⟨⟨⟨p, hp, hk, ho⟩, hq, hd⟩, _⟩ := (hb.mem e.b).1 (List.mem_map.2 ⟨e, he, rfl⟩)
  have hf := shard_facts (hok p hp) hk
  rw [ho] at hf
  refine ⟨?_, ?_, ?_, hq⟩
  · rw [← ho]
    exact most_le hp
  · rcases hf.2.1 with h | h | h | h
    · exact ⟨1, h, by omega, by omega⟩
    · exact ⟨2, h, by omega, by omega⟩
    · exact ⟨3, h, by omega, by omega⟩
    · exact ⟨4, h, by omega, by omega⟩
  · intro t ht hk3 hkey
    refine Decidable.byContradiction fun hc => ?_
    have := (dead_iff hok e.b).2 ⟨t, ht, hk3, hkey, by omega⟩
    rw [hd] at this
    cases this
theorem below_al6 (w : World) (o : Obj) : Below w.heap.size w (w.alloc o) := (Below.refl _ w).alloc (Nat.le_refl _) _
set_option maxHeartbeats 8000000 in
set_option maxRecDepth 100000 in
theorem holds_walk (A : Option Addr) (n c : Nat) (G : Nat → FoundP) (w : World) (hnc : n ≤ c) (hcm : c ≤ maxLen) (hin : FoundsIn w A n G) :
    Calls Try.prog 4 #[.slice A n c] w fun e w' => e = .returned (.bool true) ∧ Below w.heap.size w w' := by
  obtain ⟨P0, hP0, hS0⟩ := founds_list hin
  have hAf : n = 0 ∨ ∃ b off, A = some ⟨b, off, none⟩ := by
    rcases hin with h | ⟨b, off, h, _⟩
    · exact .inl h
    · exact .inr ⟨b, off, h⟩
  have FW := Lib.hid (fun W => sFew A n c hnc hcm W hAf)
  obtain ⟨n2, hn2⟩ : ∃ z, min n 130 = z := ⟨_, rfl⟩
  obtain ⟨P, hP⟩ : ∃ P, P0.take n2 = P := ⟨_, rfl⟩
  have hPl : P.length = n2 := by rw [← hP, List.length_take]; omega
  have S0 := Lib.hid (show SrcAt w A n2 (foundVals P) by have h := src_take (P := P0) (k := n2) (by omega) (hP0.symm ▸ hS0); rw [hP, hPl] at h; exact h)
  have HPL := Lib.hid hPl
  have hn60 : n2 ≤ 130 := by omega
  have hn2c : n2 ≤ c := by omega
  rw [hn2] at FW
  obtain ⟨L, hL⟩ : ∃ L, P.filter okF = L := ⟨_, rfl⟩
  have hok : ∀ p ∈ L, okF p = true := fun p hp => by rw [← hL] at hp; exact (List.mem_filter.1 hp).2
  have HOK := Lib.hid hok
  have HL := Lib.hid hL
  clear hP0 hS0 hP hPl hL hok hAf hin hn2
  have SB := Lib.hid (show Calls Try.prog 10 #[.slice A n2 c] w fun e w' => ∃ B es, e = .returned (.tuple #[.slice B es.length es.length, .int .i64 (mostV L)]) ∧ es.length ≤ n2 ∧ BestR L w w' B es from by
    have h := sBestL A c P w (by rw [HPL.out]; exact S0.out) (by rw [HPL.out]; omega)
    rw [HPL.out, HL.out] at h
    exact h)
  obtain ⟨ms, hms⟩ : ∃ z, mostV L = z := ⟨_, rfl⟩
  have HMS := Lib.hid hms
  rw [hms] at SB
  clear hms
  go_enter Try.func4, Try.ntmps4
  go_upto_region 2 with (go_at_call 9; (refine (FW.out _).mono ?_; rintro e w2 ⟨rfl, rfl⟩))
  clear FW
  go_upto_region 3 with (go_at_call 10; (refine (SB.out).mono ?_; rintro e w3 ⟨B, es, rfl, hel, hr⟩; obtain ⟨ne, hne⟩ : ∃ z, es.length = z := ⟨_, rfl⟩; rw [hne] at hel ⊢; have HNE := Lib.hid hne; have R3 := Lib.hid hr; clear hr hne))
  clear SB
  have S3 := Lib.hid (src_below S0.out R3.out.base)
  have hw3 : w.heap.size ≤ w3.heap.size := R3.out.base.size
  clear S0
  go_wp2_with fail
  go_loopw [6] (fun iv wr => ∃ i : Nat, iv = .int .i64 (i : Int) ∧ i ≤ ne ∧ Below w3.heap.size w3 wr) (fun iv _ => ne - (intOf iv).toNat)
  case atStart => exact ⟨0, rfl, Nat.zero_le _, Below.refl _ _⟩
  case round =>
    obtain ⟨i, rfl, hi, hbl⟩ := hrel
    obtain ⟨wo, rfl⟩ : ∃ wo : World, wo = wr := ⟨_, rfl⟩
    have BL := Lib.hid hbl
    have hzo := hbl.size
    clear hbl
    by_cases hlt : i < ne
    · have e1 : decide (i < ne) = true := decide_eq_true hlt
      have e2 : decide ((i : Int) < (ne : Int)) = true := decide_eq_true (by omega)
      have e3 : (i : Int) < (ne : Int) := by omega
      have e4 : (0 : Int) ≤ (i : Int) := by omega
      have p9 : IntKind.i64.wrap ((i : Int) + 1) = ((i + 1 : Nat) : Int) := by rw [IntWalk.i64_in _ (by omega)]; omega
      obtain ⟨e, he⟩ : ∃ e, es[i]? = some e := ⟨_, List.getElem?_eq_getElem (by rw [HNE.out]; exact hlt)⟩
      have hem := List.mem_of_getElem? he
      obtain ⟨hgm, ⟨q, hq, hq1, hq4⟩, htm, hpo⟩ := best_ent HOK.out R3.out.best hem
      rw [HMS.out] at hgm
      obtain ⟨b, o, hBe, hc⟩ := src_some R3.out.row (by rw [HNE.out]; omega)
      subst hBe
      have y0 : w3.cell? ⟨b, o + i * 5, none⟩ = some (strV e.b.key) := by have h := hc (i * 5 + 0) _ (entVals_get he (by omega)); rw [show o + i * 5 = o + (i * 5 + 0) by omega]; exact h
      have x0 : wo.cell? ⟨b, o + i * 5, none⟩ = some (strV e.b.key) := keepc BL.out (World.block_lt_of_cell? _ _ y0) y0
      have y1 : w3.cell? ⟨b, o + i * 5 + 1, none⟩ = some (.int .i64 e.b.gen) := by have h := hc (i * 5 + 1) _ (entVals_get he (by omega)); rw [show o + i * 5 + 1 = o + (i * 5 + 1) by omega]; exact h
      have x1 : wo.cell? ⟨b, o + i * 5 + 1, none⟩ = some (.int .i64 e.b.gen) := keepc BL.out (World.block_lt_of_cell? _ _ y1) y1
      have y2 : w3.cell? ⟨b, o + i * 5 + 2, none⟩ = some (.int .i64 e.b.size) := by have h := hc (i * 5 + 2) _ (entVals_get he (by omega)); rw [show o + i * 5 + 2 = o + (i * 5 + 2) by omega]; exact h
      have x2 : wo.cell? ⟨b, o + i * 5 + 2, none⟩ = some (.int .i64 e.b.size) := keepc BL.out (World.block_lt_of_cell? _ _ y2) y2
      have y3 : w3.cell? ⟨b, o + i * 5 + 3, none⟩ = some (strV e.b.sum) := by have h := hc (i * 5 + 3) _ (entVals_get he (by omega)); rw [show o + i * 5 + 3 = o + (i * 5 + 3) by omega]; exact h
      have x3 : wo.cell? ⟨b, o + i * 5 + 3, none⟩ = some (strV e.b.sum) := keepc BL.out (World.block_lt_of_cell? _ _ y3) y3
      have y4 : w3.cell? ⟨b, o + i * 5 + 4, none⟩ = some (.slice (some ⟨e.g, 0, none⟩) (q * 10) (q * 10)) := by have h := hc (i * 5 + 4) _ (entVals_get he (by omega)); unfold entCells at h; rw [hq] at h; rw [show o + i * 5 + 4 = o + (i * 5 + 4) by omega]; exact h
      have x4 : wo.cell? ⟨b, o + i * 5 + 4, none⟩ = some (.slice (some ⟨e.g, 0, none⟩) (q * 10) (q * 10)) := keepc BL.out (World.block_lt_of_cell? _ _ y4) y4
      have hbo : b < wo.heap.size := World.block_lt_of_cell? _ _ x0
      have hwrap1 : 0 < i → IntKind.i64.wrap ((i : Int) - 1) = ((i - 1 : Nat) : Int) := fun h => by rw [IntWalk.i64_in _ (by omega)]; omega
      have Z0 := Lib.hid (show 0 < i → ∃ k0 : Str, wo.cell? ⟨b, o + (i - 1) * 5, none⟩ = some (strV k0) ∧ k0 < e.b.key from fun hp => by
        obtain ⟨e0, he0⟩ : ∃ e0, es[i - 1]? = some e0 := ⟨_, List.getElem?_eq_getElem (by rw [HNE.out]; omega)⟩
        have h := hc ((i - 1) * 5 + 0) _ (entVals_get he0 (by omega))
        exact ⟨e0.b.key, keepc BL.out (World.block_lt_of_cell? _ _ h) h, sorted_at R3.out.best.sorted he0 (by rw [show i - 1 + 1 = i by omega]; exact he)⟩)
      have PB := Lib.hid (show Blk wo e.g 34 (placeVals (placesOf L e.b)).toArray from (R3.out.places e hem).2.below BL.out (R3.out.places e hem).2.size)
      have HQS := Lib.hid hq
      have HTM := Lib.hid htm
      have HPO := Lib.hid hpo
      have HEM := Lib.hid hem
      have hgez : e.g < wo.heap.size := PB.out.size
      have S4 := Lib.hid (src_below S3.out BL.out)
      clear y0 y1 y2 y3 y4 hc he hem hq htm hpo
      go_upto_region 7 with fail
      obtain ⟨w6, hw6⟩ : ∃ z, wo.alloc (.cells #[strV e.b.key, .int .i64 e.b.gen, .int .i64 e.b.size, strV e.b.sum, .slice (some ⟨e.g, 0, none⟩) (q * 10) (q * 10)] 32) = z := ⟨_, rfl⟩
      have BE := Lib.hid (show Blk w6 wo.heap.size 32 #[strV e.b.key, .int .i64 e.b.gen, .int .i64 e.b.size, strV e.b.sum, .slice (some ⟨e.g, 0, none⟩) (q * 10) (q * 10)] by rw [← hw6]; exact Blk.made _ _ _)
      have B6 := Lib.hid (show Below wo.heap.size wo w6 by rw [← hw6]; exact below_al6 _ _)
      rw [hw6]
      clear hw6
      have hz6 : wo.heap.size < w6.heap.size := BE.out.size
      have S6 := Lib.hid (src_below S4.out B6.out)
      have PB6 := Lib.hid (PB.out.below B6.out hgez)
      have t0 : w6.cell? ⟨wo.heap.size, 0, none⟩ = some (strV e.b.key) := BE.out.cell 0
      have t1 : w6.cell? ⟨wo.heap.size, 1, none⟩ = some (.int .i64 e.b.gen) := BE.out.cell 1
      have t2 : w6.cell? ⟨wo.heap.size, 2, none⟩ = some (.int .i64 e.b.size) := BE.out.cell 2
      have t3 : w6.cell? ⟨wo.heap.size, 3, none⟩ = some (strV e.b.sum) := BE.out.cell 3
      have t4 : w6.cell? ⟨wo.heap.size, 4, none⟩ = some (.slice (some ⟨e.g, 0, none⟩) (q * 10) (q * 10)) := BE.out.cell 4
      go_cut [61] from 30 to 60 (fun v wx => v = .bool false ∧ Below w6.heap.size w6 wx)
      case first =>
        have u1 : decide (ms < e.b.gen) = false := decide_eq_false (by omega)
        have u2 : (((q * 10 : Nat) : Int) == 0) = false := by rw [beq_eq_false_iff_ne]; omega
        have u3 : ((q : Int) * 10 == 0) = false := by rw [beq_eq_false_iff_ne]; omega
        have u4 : ((q : Int) * 10).tmod 10 = 0 := by rw [Int.tmod_eq_emod_of_nonneg (by omega)]; omega
        have u5 : (((q * 10 : Nat) : Int)).tmod 10 = 0 := by rw [Int.tmod_eq_emod_of_nonneg (by omega)]; omega
        have u6 : ¬ (q : Int) * 10 = 0 := by omega
        by_cases hi0 : 0 < i
        · obtain ⟨k0, zk, hks⟩ := Z0.out hi0
          obtain ⟨j, rfl⟩ : ∃ j, i = j + 1 := ⟨i - 1, by omega⟩
          have v1 : decide (0 < j + 1) = true := decide_eq_true hi0
          have v2 : decide ((0 : Int) < (j : Int) + 1) = true := decide_eq_true (by omega)
          have v2b : decide ((0 : Int) < ((j + 1 : Nat) : Int)) = true := decide_eq_true (by omega)
          have z0 : w6.cell? ⟨b, o + j * 5, none⟩ = some (strV k0) := keepc B6.out (World.block_lt_of_cell? _ _ zk) zk
          have v3 : (j : Int) < (ne : Int) := by omega
          have v3b : j < ne := by omega
          have v4 : (0 : Int) ≤ (j : Int) := by omega
          have v5 : IntKind.i64.wrap (j : Int) = (j : Int) := IntWalk.i64_in _ (by omega)
          have v6 : IntKind.i64.wrap ((j : Int) + 1 - 1) = (j : Int) := by rw [IntWalk.i64_in _ (by omega)]; omega
          have hb1 : Op.bytesLess k0 e.b.key = true := by rw [bytesLess_eq]; simpa using hks
          clear hks zk
          go_quiet (fail)
          go_wp2_with fail
          go_meet
          exact ⟨rfl, below_drewN (Below.refl _ _) _⟩
        · have v1 : decide (0 < i) = false := decide_eq_false hi0
          have v2 : decide ((0 : Int) < (i : Int)) = false := decide_eq_false (by omega)
          go_quiet (fail)
          go_wp2_with fail
          go_meet
          exact ⟨rfl, below_drewN (Below.refl _ _) _⟩
      case rest =>
        obtain ⟨rfl, hbc⟩ := hcut
        obtain ⟨w7, rfl⟩ : ∃ w7 : World, w7 = wc := ⟨_, rfl⟩
        have B7 := Lib.hid hbc
        have hz7 : w6.heap.size ≤ w7.heap.size := hbc.size
        have S7 := Lib.hid (src_below S6.out hbc)
        have PB7 := Lib.hid (PB6.out.below hbc PB6.out.size)
        have t0 := keepc hbc hz6 t0
        have t1 := keepc hbc hz6 t1
        have t2 := keepc hbc hz6 t2
        have t3 := keepc hbc hz6 t3
        have t4 := keepc hbc hz6 t4
        have BE7 := Lib.hid (BE.out.below hbc BE.out.size)
        clear hbc x0 x1 x2 x3 x4 Z0
        go_wp2_with fail
        go_loopw [8] (fun kv wr => ∃ k : Nat, kv = .int .i64 (k : Int) ∧ k ≤ n2 ∧ Below w7.heap.size w7 wr) (fun kv _ => n2 - (intOf kv).toNat)
        case atStart => exact ⟨0, rfl, Nat.zero_le _, Below.refl _ _⟩
        case round =>
          obtain ⟨k, rfl, hk, hbk⟩ := hrel
          obtain ⟨wp, rfl⟩ : ∃ wp : World, wp = wr := ⟨_, rfl⟩
          have BK := Lib.hid hbk
          have hzp := hbk.size
          have T7 := Lib.hid (BE7.out.below hbk BE7.out.size)
          clear hbk t0 t1 t2 t3 t4
          by_cases hlk : k < n2
          · have f1 : decide (k < n2) = true := decide_eq_true hlk
            have f2 : decide ((k : Int) < (n2 : Int)) = true := decide_eq_true (by omega)
            have f3 : (k : Int) < (n2 : Int) := by omega
            have f4 : (0 : Int) ≤ (k : Int) := by omega
            have p8 : IntKind.i64.wrap ((k : Int) + 1) = ((k + 1 : Nat) : Int) := by rw [IntWalk.i64_in _ (by omega)]; omega
            obtain ⟨p, hp⟩ : ∃ p, P[k]? = some p := ⟨_, List.getElem?_eq_getElem (by rw [HPL.out]; exact hlk)⟩
            obtain ⟨bA, oA, hAe, hc⟩ := src_some S7.out (by omega)
            subst hAe
            have y0 := hc (k * 12 + 0) (.int .i64 p.cart) (by rw [foundVals_get hp (by omega)]; rfl)
            have x0 : wp.cell? ⟨bA, oA + k * 12, none⟩ = some (.int .i64 p.cart) := keepc BK.out (World.block_lt_of_cell? _ _ y0) (by rw [show oA + k * 12 = oA + (k * 12 + 0) by omega]; exact y0)
            have y1 := hc (k * 12 + 1) (.int .i64 p.pos) (by rw [foundVals_get hp (by omega)]; rfl)
            have x1 : wp.cell? ⟨bA, oA + k * 12 + 1, none⟩ = some (.int .i64 p.pos) := keepc BK.out (World.block_lt_of_cell? _ _ y1) (by rw [show oA + k * 12 + 1 = oA + (k * 12 + 1) by omega]; exact y1)
            have y2 := hc (k * 12 + 2) (.int .i64 p.r.kind) (by rw [foundVals_get hp (by omega)]; rfl)
            have x2 : wp.cell? ⟨bA, oA + k * 12 + 2, none⟩ = some (.int .i64 p.r.kind) := keepc BK.out (World.block_lt_of_cell? _ _ y2) (by rw [show oA + k * 12 + 2 = oA + (k * 12 + 2) by omega]; exact y2)
            have y3 := hc (k * 12 + 3) (.int .i64 p.r.cart) (by rw [foundVals_get hp (by omega)]; rfl)
            have x3 : wp.cell? ⟨bA, oA + k * 12 + 3, none⟩ = some (.int .i64 p.r.cart) := keepc BK.out (World.block_lt_of_cell? _ _ y3) (by rw [show oA + k * 12 + 3 = oA + (k * 12 + 3) by omega]; exact y3)
            have y4 := hc (k * 12 + 4) (strV p.r.key) (by rw [foundVals_get hp (by omega)]; rfl)
            have x4 : wp.cell? ⟨bA, oA + k * 12 + 4, none⟩ = some (strV p.r.key) := keepc BK.out (World.block_lt_of_cell? _ _ y4) (by rw [show oA + k * 12 + 4 = oA + (k * 12 + 4) by omega]; exact y4)
            have y5 := hc (k * 12 + 5) (.int .i64 p.r.gen) (by rw [foundVals_get hp (by omega)]; rfl)
            have x5 : wp.cell? ⟨bA, oA + k * 12 + 5, none⟩ = some (.int .i64 p.r.gen) := keepc BK.out (World.block_lt_of_cell? _ _ y5) (by rw [show oA + k * 12 + 5 = oA + (k * 12 + 5) by omega]; exact y5)
            have y6 := hc (k * 12 + 6) (.int .i64 p.r.group) (by rw [foundVals_get hp (by omega)]; rfl)
            have x6 : wp.cell? ⟨bA, oA + k * 12 + 6, none⟩ = some (.int .i64 p.r.group) := keepc BK.out (World.block_lt_of_cell? _ _ y6) (by rw [show oA + k * 12 + 6 = oA + (k * 12 + 6) by omega]; exact y6)
            have y7 := hc (k * 12 + 7) (.int .i64 p.r.groups) (by rw [foundVals_get hp (by omega)]; rfl)
            have x7 : wp.cell? ⟨bA, oA + k * 12 + 7, none⟩ = some (.int .i64 p.r.groups) := keepc BK.out (World.block_lt_of_cell? _ _ y7) (by rw [show oA + k * 12 + 7 = oA + (k * 12 + 7) by omega]; exact y7)
            have y8 := hc (k * 12 + 8) (.int .i64 p.r.index) (by rw [foundVals_get hp (by omega)]; rfl)
            have x8 : wp.cell? ⟨bA, oA + k * 12 + 8, none⟩ = some (.int .i64 p.r.index) := keepc BK.out (World.block_lt_of_cell? _ _ y8) (by rw [show oA + k * 12 + 8 = oA + (k * 12 + 8) by omega]; exact y8)
            have y9 := hc (k * 12 + 9) (.int .i64 p.r.size) (by rw [foundVals_get hp (by omega)]; rfl)
            have x9 : wp.cell? ⟨bA, oA + k * 12 + 9, none⟩ = some (.int .i64 p.r.size) := keepc BK.out (World.block_lt_of_cell? _ _ y9) (by rw [show oA + k * 12 + 9 = oA + (k * 12 + 9) by omega]; exact y9)
            have y10 := hc (k * 12 + 10) (strV p.r.sum) (by rw [foundVals_get hp (by omega)]; rfl)
            have x10 : wp.cell? ⟨bA, oA + k * 12 + 10, none⟩ = some (strV p.r.sum) := keepc BK.out (World.block_lt_of_cell? _ _ y10) (by rw [show oA + k * 12 + 10 = oA + (k * 12 + 10) by omega]; exact y10)
            have y11 := hc (k * 12 + 11) (.slice p.A p.r.data.length p.c) (by rw [foundVals_get hp (by omega)]; rfl)
            have x11 : wp.cell? ⟨bA, oA + k * 12 + 11, none⟩ = some (.slice p.A p.r.data.length p.c) := keepc BK.out (World.block_lt_of_cell? _ _ y11) (by rw [show oA + k * 12 + 11 = oA + (k * 12 + 11) by omega]; exact y11)
            have HPM := Lib.hid (List.mem_of_getElem? hp)
            clear y0 y1 y2 y3 y4 y5 y6 y7 y8 y9 y10 y11 hc hp
            have hbAz : bA < wp.heap.size := World.block_lt_of_cell? _ _ x0
            go_upto_region 13 with fail
            obtain ⟨wq, hwq⟩ : ∃ z, wp.alloc (.cells #[.int .i64 p.cart, .int .i64 p.pos] 34) = z := ⟨_, rfl⟩
            have BQ := Lib.hid (show Blk wq wp.heap.size 34 #[.int .i64 p.cart, .int .i64 p.pos] by rw [← hwq]; exact Blk.made _ _ _)
            have BPQ := Lib.hid (show Below wp.heap.size wp wq by rw [← hwq]; exact below_al6 _ _)
            rw [hwq]
            clear hwq
            have hzq : wp.heap.size < wq.heap.size := BQ.out.size
            have g0 : wq.cell? ⟨wp.heap.size, 0, none⟩ = some (.int .i64 p.cart) := BQ.out.cell 0
            have g1 : wq.cell? ⟨wp.heap.size, 1, none⟩ = some (.int .i64 p.pos) := BQ.out.cell 1
            go_cut [10] from 73 to 90 (fun v wx => v = .bool (placeV p) ∧ Below wq.heap.size wq wx)
            case first =>
              by_cases d0 : 0 ≤ p.cart
              · have qd0 : decide (0 ≤ p.cart) = true := decide_eq_true d0
                by_cases d1 : p.cart < 32
                · have qd1 : decide (p.cart < 32) = true := decide_eq_true d1
                  by_cases d2 : 0 ≤ p.pos
                  · have qd2 : decide (0 ≤ p.pos) = true := decide_eq_true d2
                    by_cases d3 : p.pos < 1024
                    · have qd3 : decide (p.pos < 1024) = true := decide_eq_true d3
                      have V := Lib.hid (show placeV p = true by unfold placeV; simp [d0, d1, d2, d3])
                      clear d0 d1 d2 d3
                      go_wp2_with fail
                      go_meet
                      exact ⟨by rw [V.out], Below.refl _ _⟩
                    · have qd3 : decide (p.pos < 1024) = false := decide_eq_false d3
                      have V := Lib.hid (show placeV p = false by unfold placeV; simp [d0, d1, d2, d3])
                      clear d0 d1 d2 d3
                      go_wp2_with fail
                      go_meet
                      exact ⟨by rw [V.out], Below.refl _ _⟩
                  · have qd2 : decide (0 ≤ p.pos) = false := decide_eq_false d2
                    have V := Lib.hid (show placeV p = false by unfold placeV; simp [d0, d1, d2])
                    clear d0 d1 d2
                    go_wp2_with fail
                    go_meet
                    exact ⟨by rw [V.out], Below.refl _ _⟩
                · have qd1 : decide (p.cart < 32) = false := decide_eq_false d1
                  have V := Lib.hid (show placeV p = false by unfold placeV; simp [d0, d1])
                  clear d0 d1
                  go_wp2_with fail
                  go_meet
                  exact ⟨by rw [V.out], Below.refl _ _⟩
              · have qd0 : decide (0 ≤ p.cart) = false := decide_eq_false d0
                have V := Lib.hid (show placeV p = false by unfold placeV; simp [d0])
                clear d0
                go_wp2_with fail
                go_meet
                exact ⟨by rw [V.out], Below.refl _ _⟩
            case rest =>
              obtain ⟨rfl, hbc⟩ := hcut
              obtain ⟨wm, rfl⟩ : ∃ wm : World, wm = wc := ⟨_, rfl⟩
              have BM := Lib.hid (show Below wp.heap.size wp wm from BPQ.out.trans (hbc.mono (Nat.le_of_lt hzq)))
              clear hbc g0 g1
              have hzm : wp.heap.size ≤ wm.heap.size := BM.out.size
              have r2 := keepc BM.out hbAz x2
              have r3 := keepc BM.out hbAz x3
              have r4 := keepc BM.out hbAz x4
              have r5 := keepc BM.out hbAz x5
              have r6 := keepc BM.out hbAz x6
              have r7 := keepc BM.out hbAz x7
              have r8 := keepc BM.out hbAz x8
              have r9 := keepc BM.out hbAz x9
              have r10 := keepc BM.out hbAz x10
              have r11 := keepc BM.out hbAz x11
              have TM := Lib.hid (T7.out.below BM.out T7.out.size)
              have t0 : wm.cell? ⟨wo.heap.size, 0, none⟩ = some (strV e.b.key) := TM.out.cell 0
              have t1 : wm.cell? ⟨wo.heap.size, 1, none⟩ = some (.int .i64 e.b.gen) := TM.out.cell 1
              have t2 : wm.cell? ⟨wo.heap.size, 2, none⟩ = some (.int .i64 e.b.size) := TM.out.cell 2
              have t3 : wm.cell? ⟨wo.heap.size, 3, none⟩ = some (strV e.b.sum) := TM.out.cell 3
              have t4 : wm.cell? ⟨wo.heap.size, 4, none⟩ = some (.slice (some ⟨e.g, 0, none⟩) (q * 10) (q * 10)) := TM.out.cell 4
              have hzt : wo.heap.size < wm.heap.size := World.block_lt_of_cell? _ _ t0
              have hbAm : bA < wm.heap.size := World.block_lt_of_cell? _ _ r2
              clear x0 x1 x2 x3 x4 x5 x6 x7 x8 x9 x10 x11
              go_upto_region 14 with fail
              by_cases cZ0 : placeV p = true
              · have qc0 : placeV p = true := cZ0
                rw [qc0]
                by_cases cZ1 : goodV p.r = true
                · have qc1 : goodV p.r = true := cZ1
                  by_cases cZ2 : p.r.kind = 3
                  · have qc2 : (p.r.kind == 3) = true := by simpa using cZ2
                    by_cases cZ3 : p.r.key = e.b.key
                    · have qc3 : (p.r.key == e.b.key) = true := by simpa using cZ3
                      by_cases cZ4 : e.b.gen ≤ p.r.gen
                      · have qc4 : decide (e.b.gen ≤ p.r.gen) = true := decide_eq_true cZ4
                        exfalso
                        have hL := List.mem_filter.2 ⟨HPM.out, ok_of cZ0 cZ1⟩
                        rw [HL.out] at hL
                        have h := HTM.out p hL cZ2 cZ3
                        omega
                      · have qc4 : decide (e.b.gen ≤ p.r.gen) = false := decide_eq_false cZ4
                        clear cZ0 cZ1 cZ2 cZ3 cZ4
                        refine wp_region_held_drew (S := (fun w' => w'.cell? ⟨bA, oA + k * 12 + 2, none⟩ = some (.int .i64 p.r.kind) ∧ w'.cell? ⟨bA, oA + k * 12 + 3, none⟩ = some (.int .i64 p.r.cart) ∧ w'.cell? ⟨bA, oA + k * 12 + 4, none⟩ = some (strV p.r.key) ∧ w'.cell? ⟨bA, oA + k * 12 + 5, none⟩ = some (.int .i64 p.r.gen) ∧ w'.cell? ⟨bA, oA + k * 12 + 6, none⟩ = some (.int .i64 p.r.group) ∧ w'.cell? ⟨bA, oA + k * 12 + 7, none⟩ = some (.int .i64 p.r.groups) ∧ w'.cell? ⟨bA, oA + k * 12 + 8, none⟩ = some (.int .i64 p.r.index) ∧ w'.cell? ⟨bA, oA + k * 12 + 9, none⟩ = some (.int .i64 p.r.size) ∧ w'.cell? ⟨bA, oA + k * 12 + 10, none⟩ = some (strV p.r.sum) ∧ w'.cell? ⟨bA, oA + k * 12 + 11, none⟩ = some (.slice p.A p.r.data.length p.c) ∧ w'.cell? ⟨wo.heap.size, 0, none⟩ = some (strV e.b.key) ∧ w'.cell? ⟨wo.heap.size, 1, none⟩ = some (.int .i64 e.b.gen) ∧ w'.cell? ⟨wo.heap.size, 2, none⟩ = some (.int .i64 e.b.size) ∧ w'.cell? ⟨wo.heap.size, 3, none⟩ = some (strV e.b.sum) ∧ w'.cell? ⟨wo.heap.size, 4, none⟩ = some (.slice (some ⟨e.g, 0, none⟩) (q * 10) (q * 10)))) (by kernel_rfl) ⟨r2, r3, r4, r5, r6, r7, r8, r9, r10, r11, t0, t1, t2, t3, t4⟩ (fun hHeld => ?_)
                        refine wpAnyH_take (i := 0) (v := ?vZp4n10) (take_list rfl) (by kernel_rfl) (by kernel_rfl) (by kernel_rfl) (fun _ _ _ h => h) (Or.inl ⟨by rfl, ?hyZp4n10⟩) (by assumption) ?restZp4n10
                        case hyZp4n10 => (intro w hSw; (try dsimp only at hSw); go_simp <;> with_reducible rfl)
                        try simp only [Act.put, List.setIfInBounds_toArray, List.set_cons_zero, List.set_cons_succ]
                        refine wpAnyH_take (i := 1) (v := ?vZp4n11) (take_list rfl) (by kernel_rfl) (by kernel_rfl) (by kernel_rfl) (fun _ _ _ h => h) (Or.inl ⟨by rfl, ?hyZp4n11⟩) (by assumption) ?restZp4n11
                        case hyZp4n11 => (intro w hSw; (try dsimp only at hSw); go_simp <;> with_reducible rfl)
                        try simp only [Act.put, List.setIfInBounds_toArray, List.set_cons_zero, List.set_cons_succ]
                        refine wpAnyH_take (i := 2) (v := ?vZp4n12) (take_list rfl) (by kernel_rfl) (by kernel_rfl) (by kernel_rfl) (fun _ _ _ h => h) (Or.inl ⟨by rfl, ?hyZp4n12⟩) (by assumption) ?restZp4n12
                        case hyZp4n12 => (intro w hSw; (try dsimp only at hSw); go_simp <;> with_reducible rfl)
                        try simp only [Act.put, List.setIfInBounds_toArray, List.set_cons_zero, List.set_cons_succ]
                        refine wpAnyH_take (i := 3) (v := ?vZp4n13) (take_list rfl) (by kernel_rfl) (by kernel_rfl) (by kernel_rfl) (fun _ _ _ h => h) (Or.inl ⟨by rfl, ?hyZp4n13⟩) (by assumption) ?restZp4n13
                        case hyZp4n13 => (intro w hSw; (try dsimp only at hSw); go_simp <;> with_reducible rfl)
                        try simp only [Act.put, List.setIfInBounds_toArray, List.set_cons_zero, List.set_cons_succ]
                        refine wpAnyH_take (i := 4) (v := ?vZp4n14) (take_list rfl) (by kernel_rfl) (by kernel_rfl) (by kernel_rfl) (fun _ _ _ h => h) (Or.inl ⟨by rfl, ?hyZp4n14⟩) (by assumption) ?restZp4n14
                        case hyZp4n14 => (intro w hSw; (try dsimp only at hSw); go_simp <;> with_reducible rfl)
                        try simp only [Act.put, List.setIfInBounds_toArray, List.set_cons_zero, List.set_cons_succ]
                        refine wpAnyH_take (i := 5) (v := ?vZp4n15) (take_list rfl) (by kernel_rfl) (by kernel_rfl) (by kernel_rfl) (fun _ _ _ h => h) (Or.inl ⟨by rfl, ?hyZp4n15⟩) (by assumption) ?restZp4n15
                        case hyZp4n15 => (intro w hSw; (try dsimp only at hSw); go_simp <;> with_reducible rfl)
                        try simp only [Act.put, List.setIfInBounds_toArray, List.set_cons_zero, List.set_cons_succ]
                        refine wpAnyH_take (i := 6) (v := ?vZp4n16) (take_list rfl) (by kernel_rfl) (by kernel_rfl) (by kernel_rfl) (fun _ _ _ h => h) (Or.inl ⟨by rfl, ?hyZp4n16⟩) (by assumption) ?restZp4n16
                        case hyZp4n16 => (intro w hSw; (try dsimp only at hSw); go_simp <;> with_reducible rfl)
                        try simp only [Act.put, List.setIfInBounds_toArray, List.set_cons_zero, List.set_cons_succ]
                        refine wpAnyH_ready (rs := [7]) (by kernel_rfl) (by simp) ?_
                        refine AllReadyH.cons rfl (fun K hK => ?_) AllReadyH.nil
                        go_simp
                        go_wp2_with (go_at_call 14; refine (sGood p.r p.A p.c _).mono ?_; rintro e wg ⟨rfl, hb⟩; rw [qc1]; have KB := Lib.hid (show Below wm.heap.size wm wg from (by first | exact hb | exact below_of_drew hb)); clear hb)
                        clear hHeld
                        refine hK.out _ _ ⟨keepc KB.out hbAm r2, keepc KB.out hbAm r3, keepc KB.out hbAm r4, keepc KB.out hbAm r5, keepc KB.out hbAm r6, keepc KB.out hbAm r7, keepc KB.out hbAm r8, keepc KB.out hbAm r9, keepc KB.out hbAm r10, keepc KB.out hbAm r11, keepc KB.out hzt t0, keepc KB.out hzt t1, keepc KB.out hzt t2, keepc KB.out hzt t3, keepc KB.out hzt t4⟩ (fun hHeld => ?_)
                        clear hK K
                        refine wpAnyH_take (i := 8) (v := ?vZp4n18) (take_list rfl) (by kernel_rfl) (by kernel_rfl) (by kernel_rfl) (fun _ _ _ h => h) (Or.inl ⟨by rfl, ?hyZp4n18⟩) (by assumption) ?restZp4n18
                        case hyZp4n18 => (intro w hSw; (try dsimp only at hSw); go_simp <;> with_reducible rfl)
                        try simp only [Act.put, List.setIfInBounds_toArray, List.set_cons_zero, List.set_cons_succ]
                        refine wpAnyH_take (i := 9) (v := ?vZp4n19) (take_list rfl) (by kernel_rfl) (by kernel_rfl) (by kernel_rfl) (fun _ _ _ h => h) (Or.inl ⟨by rfl, ?hyZp4n19⟩) (by assumption) ?restZp4n19
                        case hyZp4n19 => (intro w hSw; (try dsimp only at hSw); go_simp <;> with_reducible rfl)
                        try simp only [Act.put, List.setIfInBounds_toArray, List.set_cons_zero, List.set_cons_succ]
                        refine wpAnyH_take (i := 10) (v := ?vZp4n110) (take_list rfl) (by kernel_rfl) (by kernel_rfl) (by kernel_rfl) (fun _ _ _ h => h) (Or.inl ⟨by rfl, ?hyZp4n110⟩) (by assumption) ?restZp4n110
                        case hyZp4n110 => (intro w hSw; (try dsimp only at hSw); go_simp <;> with_reducible rfl)
                        try simp only [Act.put, List.setIfInBounds_toArray, List.set_cons_zero, List.set_cons_succ]
                        refine wpAnyH_take (i := 11) (v := ?vZp4n111) (take_list rfl) (by kernel_rfl) (by kernel_rfl) (by kernel_rfl) (fun _ _ _ h => h) (Or.inl ⟨by rfl, ?hyZp4n111⟩) (by assumption) ?restZp4n111
                        case hyZp4n111 => (intro w hSw; (try dsimp only at hSw); go_simp <;> with_reducible rfl)
                        try simp only [Act.put, List.setIfInBounds_toArray, List.set_cons_zero, List.set_cons_succ]
                        refine wpAnyH_take (i := 12) (v := ?vZp4n112) (take_list rfl) (by kernel_rfl) (by kernel_rfl) (by kernel_rfl) (fun _ _ _ h => h) (Or.inl ⟨by rfl, ?hyZp4n112⟩) (by assumption) ?restZp4n112
                        case hyZp4n112 => (intro w hSw; (try dsimp only at hSw); go_simp <;> with_reducible rfl)
                        try simp only [Act.put, List.setIfInBounds_toArray, List.set_cons_zero, List.set_cons_succ]
                        refine wpAnyH_take (i := 13) (v := ?vZp4n113) (take_list rfl) (by kernel_rfl) (by kernel_rfl) (by kernel_rfl) (fun _ _ _ h => h) (Or.inl ⟨by rfl, ?hyZp4n113⟩) (by assumption) ?restZp4n113
                        case hyZp4n113 => (intro w hSw; (try dsimp only at hSw); go_simp <;> with_reducible rfl)
                        try simp only [Act.put, List.setIfInBounds_toArray, List.set_cons_zero, List.set_cons_succ]
                        refine wpAnyH_take (i := 14) (v := ?vZp4n114) (take_list rfl) (by kernel_rfl) (by kernel_rfl) (by kernel_rfl) (fun _ _ _ h => h) (Or.inl ⟨by rfl, ?hyZp4n114⟩) (by assumption) ?restZp4n114
                        case hyZp4n114 => (intro w hSw; (try dsimp only at hSw); go_simp <;> with_reducible rfl)
                        try simp only [Act.put, List.setIfInBounds_toArray, List.set_cons_zero, List.set_cons_succ]
                        refine wpAnyH_take (i := 15) (v := ?vZp4n115) (take_list rfl) (by kernel_rfl) (by kernel_rfl) (by kernel_rfl) (fun _ _ _ h => h) (Or.inl ⟨by rfl, ?hyZp4n115⟩) (by assumption) ?restZp4n115
                        case hyZp4n115 => (intro w hSw; (try dsimp only at hSw); go_simp <;> with_reducible rfl)
                        try simp only [Act.put, List.setIfInBounds_toArray, List.set_cons_zero, List.set_cons_succ]
                        refine wpAnyH_take (i := 16) (v := ?vZp4n116) (take_list rfl) (by kernel_rfl) (by kernel_rfl) (by kernel_rfl) (fun _ _ _ h => h) (Or.inl ⟨by rfl, ?hyZp4n116⟩) (by assumption) ?restZp4n116
                        case hyZp4n116 => (intro w hSw; (try dsimp only at hSw); go_simp <;> with_reducible rfl)
                        try simp only [Act.put, List.setIfInBounds_toArray, List.set_cons_zero, List.set_cons_succ]
                        refine wpAnyH_take (i := 17) (v := ?vZp4n117) (take_list rfl) (by kernel_rfl) (by kernel_rfl) (by kernel_rfl) (fun _ _ _ h => h) (Or.inl ⟨by rfl, ?hyZp4n117⟩) (by assumption) ?restZp4n117
                        case hyZp4n117 => (intro w hSw; (try dsimp only at hSw); go_simp <;> with_reducible rfl)
                        try simp only [Act.put, List.setIfInBounds_toArray, List.set_cons_zero, List.set_cons_succ]
                        refine wpAnyH_take (i := 18) (v := ?vZp4n118) (take_list rfl) (by kernel_rfl) (by kernel_rfl) (by kernel_rfl) (fun _ _ _ h => h) (Or.inl ⟨by rfl, ?hyZp4n118⟩) (by assumption) ?restZp4n118
                        case hyZp4n118 => (intro w hSw; (try dsimp only at hSw); go_simp <;> with_reducible rfl)
                        try simp only [Act.put, List.setIfInBounds_toArray, List.set_cons_zero, List.set_cons_succ]
                        refine wpAnyH_take (i := 19) (v := ?vZp4n119) (take_list rfl) (by kernel_rfl) (by kernel_rfl) (by kernel_rfl) (fun _ _ _ h => h) (Or.inl ⟨by rfl, ?hyZp4n119⟩) (by assumption) ?restZp4n119
                        case hyZp4n119 => (intro w hSw; (try dsimp only at hSw); go_simp <;> with_reducible rfl)
                        try simp only [Act.put, List.setIfInBounds_toArray, List.set_cons_zero, List.set_cons_succ]
                        refine wpAnyH_take (i := 20) (v := ?vZp4n120) (take_list rfl) (by kernel_rfl) (by kernel_rfl) (by kernel_rfl) (fun _ _ _ h => h) (Or.inl ⟨by rfl, ?hyZp4n120⟩) (by assumption) ?restZp4n120
                        case hyZp4n120 => (intro w hSw; (try dsimp only at hSw); go_simp <;> with_reducible rfl)
                        try simp only [Act.put, List.setIfInBounds_toArray, List.set_cons_zero, List.set_cons_succ]
                        refine wpAnyH_take (i := 21) (v := ?vZp4n121) (take_list rfl) (by kernel_rfl) (by kernel_rfl) (by kernel_rfl) (fun _ _ _ h => h) (Or.inl ⟨by rfl, ?hyZp4n121⟩) (by assumption) ?restZp4n121
                        case hyZp4n121 => (intro w hSw; (try dsimp only at hSw); go_simp <;> with_reducible rfl)
                        try simp only [Act.put, List.setIfInBounds_toArray, List.set_cons_zero, List.set_cons_succ]
                        refine wpAnyH_take (i := 22) (v := ?vZp4n122) (take_list rfl) (by kernel_rfl) (by kernel_rfl) (by kernel_rfl) (fun _ _ _ h => h) (Or.inl ⟨by rfl, ?hyZp4n122⟩) (by assumption) ?restZp4n122
                        case hyZp4n122 => (intro w hSw; (try dsimp only at hSw); go_simp <;> with_reducible rfl)
                        try simp only [Act.put, List.setIfInBounds_toArray, List.set_cons_zero, List.set_cons_succ]
                        refine wpAnyH_take (i := 23) (v := ?vZp4n123) (take_list rfl) (by kernel_rfl) (by kernel_rfl) (by kernel_rfl) (fun _ _ _ h => h) (Or.inl ⟨by rfl, ?hyZp4n123⟩) (by assumption) ?restZp4n123
                        case hyZp4n123 => (intro w hSw; (try dsimp only at hSw); go_simp <;> with_reducible rfl)
                        try simp only [Act.put, List.setIfInBounds_toArray, List.set_cons_zero, List.set_cons_succ]
                        refine wpAnyH_take (i := 24) (v := ?vZp4n124) (take_list rfl) (by kernel_rfl) (by kernel_rfl) (by kernel_rfl) (fun _ _ _ h => h) (Or.inl ⟨by rfl, ?hyZp4n124⟩) (by assumption) ?restZp4n124
                        case hyZp4n124 => (intro w hSw; (try dsimp only at hSw); go_simp <;> with_reducible rfl)
                        try simp only [Act.put, List.setIfInBounds_toArray, List.set_cons_zero, List.set_cons_succ]
                        refine wpAnyH_take (i := 25) (v := ?vZp4n125) (take_list rfl) (by kernel_rfl) (by kernel_rfl) (by kernel_rfl) (fun _ _ _ h => h) (Or.inl ⟨by rfl, ?hyZp4n125⟩) (by assumption) ?restZp4n125
                        case hyZp4n125 => (intro w hSw; (try dsimp only at hSw); go_simp <;> with_reducible rfl)
                        try simp only [Act.put, List.setIfInBounds_toArray, List.set_cons_zero, List.set_cons_succ]
                        refine wpAnyH_take (i := 26) (v := ?vZp4n126) (take_list rfl) (by kernel_rfl) (by kernel_rfl) (by kernel_rfl) (fun _ _ _ h => h) (Or.inl ⟨by rfl, ?hyZp4n126⟩) (by assumption) ?restZp4n126
                        case hyZp4n126 => (intro w hSw; (try dsimp only at hSw); go_simp <;> with_reducible rfl)
                        try simp only [Act.put, List.setIfInBounds_toArray, List.set_cons_zero, List.set_cons_succ]
                        refine wpAnyH_take (i := 27) (v := ?vZp4n127) (take_list rfl) (by kernel_rfl) (by kernel_rfl) (by kernel_rfl) (fun _ _ _ h => h) (Or.inl ⟨by rfl, ?hyZp4n127⟩) (by assumption) ?restZp4n127
                        case hyZp4n127 => (intro w hSw; (try dsimp only at hSw); go_simp <;> with_reducible rfl)
                        try simp only [Act.put, List.setIfInBounds_toArray, List.set_cons_zero, List.set_cons_succ]
                        refine wpAnyH_take (i := 28) (v := ?vZp4n128) (take_list rfl) (by kernel_rfl) (by kernel_rfl) (by kernel_rfl) (fun _ _ _ h => h) (Or.inl ⟨by rfl, ?hyZp4n128⟩) (by assumption) ?restZp4n128
                        case hyZp4n128 => (intro w hSw; (try dsimp only at hSw); go_simp <;> with_reducible rfl)
                        try simp only [Act.put, List.setIfInBounds_toArray, List.set_cons_zero, List.set_cons_succ]
                        refine wpAnyH_take (i := 29) (v := ?vZp4n129) (take_list rfl) (by kernel_rfl) (by kernel_rfl) (by kernel_rfl) (fun _ _ _ h => h) (Or.inl ⟨by rfl, ?hyZp4n129⟩) (by assumption) ?restZp4n129
                        case hyZp4n129 => (intro w hSw; (try dsimp only at hSw); go_simp <;> with_reducible rfl)
                        try simp only [Act.put, List.setIfInBounds_toArray, List.set_cons_zero, List.set_cons_succ]
                        refine wpAnyH_take (i := 30) (v := ?vZp4n130) (take_list rfl) (by kernel_rfl) (by kernel_rfl) (by kernel_rfl) (fun _ _ _ h => h) (Or.inl ⟨by rfl, ?hyZp4n130⟩) (by assumption) ?restZp4n130
                        case hyZp4n130 => (intro w hSw; (try dsimp only at hSw); go_simp <;> with_reducible rfl)
                        try simp only [Act.put, List.setIfInBounds_toArray, List.set_cons_zero, List.set_cons_succ]
                        refine wpAnyH_take (i := 31) (v := ?vZp4n131) (take_list rfl) (by kernel_rfl) (by kernel_rfl) (by kernel_rfl) (fun _ _ _ h => h) (Or.inl ⟨by rfl, ?hyZp4n131⟩) (by assumption) ?restZp4n131
                        case hyZp4n131 => (intro w hSw; (try dsimp only at hSw); go_simp <;> with_reducible rfl)
                        try simp only [Act.put, List.setIfInBounds_toArray, List.set_cons_zero, List.set_cons_succ]
                        refine wpAnyH_take (i := 32) (v := ?vZp4n132) (take_list rfl) (by kernel_rfl) (by kernel_rfl) (by kernel_rfl) (fun _ _ _ h => h) (Or.inl ⟨by rfl, ?hyZp4n132⟩) (by assumption) ?restZp4n132
                        case hyZp4n132 => (intro w hSw; (try dsimp only at hSw); go_simp <;> with_reducible rfl)
                        try simp only [Act.put, List.setIfInBounds_toArray, List.set_cons_zero, List.set_cons_succ]
                        refine wpAnyH_take (i := 33) (v := ?vZp4n133) (take_list rfl) (by kernel_rfl) (by kernel_rfl) (by kernel_rfl) (fun _ _ _ h => h) (Or.inl ⟨by rfl, ?hyZp4n133⟩) (by assumption) ?restZp4n133
                        case hyZp4n133 => (intro w hSw; (try dsimp only at hSw); go_simp <;> with_reducible rfl)
                        try simp only [Act.put, List.setIfInBounds_toArray, List.set_cons_zero, List.set_cons_succ]
                        refine wpAnyH_take (i := 34) (v := ?vZp4n134) (take_list rfl) (by kernel_rfl) (by kernel_rfl) (by kernel_rfl) (fun _ _ _ h => h) (Or.inl ⟨by rfl, ?hyZp4n134⟩) (by assumption) ?restZp4n134
                        case hyZp4n134 => (intro w hSw; (try dsimp only at hSw); go_simp <;> with_reducible rfl)
                        try simp only [Act.put, List.setIfInBounds_toArray, List.set_cons_zero, List.set_cons_succ]
                        refine wpAnyH_take (i := 35) (v := ?vZp4n135) (take_list rfl) (by kernel_rfl) (by kernel_rfl) (by kernel_rfl) (fun _ _ _ h => h) (Or.inl ⟨by rfl, ?hyZp4n135⟩) (by assumption) ?restZp4n135
                        case hyZp4n135 => (intro w hSw; (try dsimp only at hSw); go_simp <;> with_reducible rfl)
                        try simp only [Act.put, List.setIfInBounds_toArray, List.set_cons_zero, List.set_cons_succ]
                        refine wpAnyH_take (i := 36) (v := ?vZp4n136) (take_list rfl) (by kernel_rfl) (by kernel_rfl) (by kernel_rfl) (fun _ _ _ h => h) (Or.inl ⟨by rfl, ?hyZp4n136⟩) (by assumption) ?restZp4n136
                        case hyZp4n136 => (intro w hSw; (try dsimp only at hSw); go_simp <;> with_reducible rfl)
                        try simp only [Act.put, List.setIfInBounds_toArray, List.set_cons_zero, List.set_cons_succ]
                        refine wpAnyH_take (i := 37) (v := ?vZp4n137) (take_list rfl) (by kernel_rfl) (by kernel_rfl) (by kernel_rfl) (fun _ _ _ h => h) (Or.inl ⟨by rfl, ?hyZp4n137⟩) (by assumption) ?restZp4n137
                        case hyZp4n137 => (intro w hSw; (try dsimp only at hSw); go_simp <;> with_reducible rfl)
                        try simp only [Act.put, List.setIfInBounds_toArray, List.set_cons_zero, List.set_cons_succ]
                        refine wpAnyH_take (i := 38) (v := ?vZp4n138) (take_list rfl) (by kernel_rfl) (by kernel_rfl) (by kernel_rfl) (fun _ _ _ h => h) (Or.inl ⟨by rfl, ?hyZp4n138⟩) (by assumption) ?restZp4n138
                        case hyZp4n138 => (intro w hSw; (try dsimp only at hSw); go_simp <;> with_reducible rfl)
                        try simp only [Act.put, List.setIfInBounds_toArray, List.set_cons_zero, List.set_cons_succ]
                        refine wpAnyH_take (i := 39) (v := ?vZp4n139) (take_list rfl) (by kernel_rfl) (by kernel_rfl) (by kernel_rfl) (fun _ _ _ h => h) (Or.inl ⟨by rfl, ?hyZp4n139⟩) (by assumption) ?restZp4n139
                        case hyZp4n139 => (intro w hSw; (try dsimp only at hSw); go_simp <;> with_reducible rfl)
                        try simp only [Act.put, List.setIfInBounds_toArray, List.set_cons_zero, List.set_cons_succ]
                        refine wpAnyH_done (by kernel_rfl) ?_ _
                        go_wp2_with fail
                        go_roundw
                        case rel => first | exact ⟨k + 1, rfl, hlk, BK.out.trans ((BM.out.trans ((show Below wm.heap.size wm _ from by first | exact KB.out | exact below_drewed _ wm | exact below_of_drew KB.out).mono hzm)).mono hzp)⟩ | ((repeat apply Exists.intro); exact ⟨⟨k + 1, rfl, hlk, BK.out.trans ((BM.out.trans ((show Below wm.heap.size wm _ from by first | exact KB.out | exact below_drewed _ wm | exact below_of_drew KB.out).mono hzm)).mono hzp)⟩, rfl⟩)
                        case measure => (simp only [intOf]; omega)
                    · have qc3 : (p.r.key == e.b.key) = false := by simpa using cZ3
                      have pc3 : (⟨(p.r.key).toArray⟩ : ByteArray) ≠ ⟨(e.b.key).toArray⟩ := fun h => cZ3 (by have h2 := congrArg (fun b => b.data.toList) h; simpa using h2)
                      clear cZ0 cZ1 cZ2 cZ3
                      refine wp_region_held_drew (S := (fun w' => w'.cell? ⟨bA, oA + k * 12 + 2, none⟩ = some (.int .i64 p.r.kind) ∧ w'.cell? ⟨bA, oA + k * 12 + 3, none⟩ = some (.int .i64 p.r.cart) ∧ w'.cell? ⟨bA, oA + k * 12 + 4, none⟩ = some (strV p.r.key) ∧ w'.cell? ⟨bA, oA + k * 12 + 5, none⟩ = some (.int .i64 p.r.gen) ∧ w'.cell? ⟨bA, oA + k * 12 + 6, none⟩ = some (.int .i64 p.r.group) ∧ w'.cell? ⟨bA, oA + k * 12 + 7, none⟩ = some (.int .i64 p.r.groups) ∧ w'.cell? ⟨bA, oA + k * 12 + 8, none⟩ = some (.int .i64 p.r.index) ∧ w'.cell? ⟨bA, oA + k * 12 + 9, none⟩ = some (.int .i64 p.r.size) ∧ w'.cell? ⟨bA, oA + k * 12 + 10, none⟩ = some (strV p.r.sum) ∧ w'.cell? ⟨bA, oA + k * 12 + 11, none⟩ = some (.slice p.A p.r.data.length p.c) ∧ w'.cell? ⟨wo.heap.size, 0, none⟩ = some (strV e.b.key) ∧ w'.cell? ⟨wo.heap.size, 1, none⟩ = some (.int .i64 e.b.gen) ∧ w'.cell? ⟨wo.heap.size, 2, none⟩ = some (.int .i64 e.b.size) ∧ w'.cell? ⟨wo.heap.size, 3, none⟩ = some (strV e.b.sum) ∧ w'.cell? ⟨wo.heap.size, 4, none⟩ = some (.slice (some ⟨e.g, 0, none⟩) (q * 10) (q * 10)))) (by kernel_rfl) ⟨r2, r3, r4, r5, r6, r7, r8, r9, r10, r11, t0, t1, t2, t3, t4⟩ (fun hHeld => ?_)
                      refine wpAnyH_take (i := 0) (v := ?vZp3n20) (take_list rfl) (by kernel_rfl) (by kernel_rfl) (by kernel_rfl) (fun _ _ _ h => h) (Or.inl ⟨by rfl, ?hyZp3n20⟩) (by assumption) ?restZp3n20
                      case hyZp3n20 => (intro w hSw; (try dsimp only at hSw); go_simp <;> with_reducible rfl)
                      try simp only [Act.put, List.setIfInBounds_toArray, List.set_cons_zero, List.set_cons_succ]
                      refine wpAnyH_take (i := 1) (v := ?vZp3n21) (take_list rfl) (by kernel_rfl) (by kernel_rfl) (by kernel_rfl) (fun _ _ _ h => h) (Or.inl ⟨by rfl, ?hyZp3n21⟩) (by assumption) ?restZp3n21
                      case hyZp3n21 => (intro w hSw; (try dsimp only at hSw); go_simp <;> with_reducible rfl)
                      try simp only [Act.put, List.setIfInBounds_toArray, List.set_cons_zero, List.set_cons_succ]
                      refine wpAnyH_take (i := 2) (v := ?vZp3n22) (take_list rfl) (by kernel_rfl) (by kernel_rfl) (by kernel_rfl) (fun _ _ _ h => h) (Or.inl ⟨by rfl, ?hyZp3n22⟩) (by assumption) ?restZp3n22
                      case hyZp3n22 => (intro w hSw; (try dsimp only at hSw); go_simp <;> with_reducible rfl)
                      try simp only [Act.put, List.setIfInBounds_toArray, List.set_cons_zero, List.set_cons_succ]
                      refine wpAnyH_take (i := 3) (v := ?vZp3n23) (take_list rfl) (by kernel_rfl) (by kernel_rfl) (by kernel_rfl) (fun _ _ _ h => h) (Or.inl ⟨by rfl, ?hyZp3n23⟩) (by assumption) ?restZp3n23
                      case hyZp3n23 => (intro w hSw; (try dsimp only at hSw); go_simp <;> with_reducible rfl)
                      try simp only [Act.put, List.setIfInBounds_toArray, List.set_cons_zero, List.set_cons_succ]
                      refine wpAnyH_take (i := 4) (v := ?vZp3n24) (take_list rfl) (by kernel_rfl) (by kernel_rfl) (by kernel_rfl) (fun _ _ _ h => h) (Or.inl ⟨by rfl, ?hyZp3n24⟩) (by assumption) ?restZp3n24
                      case hyZp3n24 => (intro w hSw; (try dsimp only at hSw); go_simp <;> with_reducible rfl)
                      try simp only [Act.put, List.setIfInBounds_toArray, List.set_cons_zero, List.set_cons_succ]
                      refine wpAnyH_take (i := 5) (v := ?vZp3n25) (take_list rfl) (by kernel_rfl) (by kernel_rfl) (by kernel_rfl) (fun _ _ _ h => h) (Or.inl ⟨by rfl, ?hyZp3n25⟩) (by assumption) ?restZp3n25
                      case hyZp3n25 => (intro w hSw; (try dsimp only at hSw); go_simp <;> with_reducible rfl)
                      try simp only [Act.put, List.setIfInBounds_toArray, List.set_cons_zero, List.set_cons_succ]
                      refine wpAnyH_take (i := 6) (v := ?vZp3n26) (take_list rfl) (by kernel_rfl) (by kernel_rfl) (by kernel_rfl) (fun _ _ _ h => h) (Or.inl ⟨by rfl, ?hyZp3n26⟩) (by assumption) ?restZp3n26
                      case hyZp3n26 => (intro w hSw; (try dsimp only at hSw); go_simp <;> with_reducible rfl)
                      try simp only [Act.put, List.setIfInBounds_toArray, List.set_cons_zero, List.set_cons_succ]
                      refine wpAnyH_ready (rs := [7]) (by kernel_rfl) (by simp) ?_
                      refine AllReadyH.cons rfl (fun K hK => ?_) AllReadyH.nil
                      go_simp
                      go_wp2_with (go_at_call 14; refine (sGood p.r p.A p.c _).mono ?_; rintro e wg ⟨rfl, hb⟩; rw [qc1]; have KB := Lib.hid (show Below wm.heap.size wm wg from (by first | exact hb | exact below_of_drew hb)); clear hb)
                      clear hHeld
                      refine hK.out _ _ ⟨keepc KB.out hbAm r2, keepc KB.out hbAm r3, keepc KB.out hbAm r4, keepc KB.out hbAm r5, keepc KB.out hbAm r6, keepc KB.out hbAm r7, keepc KB.out hbAm r8, keepc KB.out hbAm r9, keepc KB.out hbAm r10, keepc KB.out hbAm r11, keepc KB.out hzt t0, keepc KB.out hzt t1, keepc KB.out hzt t2, keepc KB.out hzt t3, keepc KB.out hzt t4⟩ (fun hHeld => ?_)
                      clear hK K
                      refine wpAnyH_take (i := 8) (v := ?vZp3n28) (take_list rfl) (by kernel_rfl) (by kernel_rfl) (by kernel_rfl) (fun _ _ _ h => h) (Or.inl ⟨by rfl, ?hyZp3n28⟩) (by assumption) ?restZp3n28
                      case hyZp3n28 => (intro w hSw; (try dsimp only at hSw); go_simp <;> with_reducible rfl)
                      try simp only [Act.put, List.setIfInBounds_toArray, List.set_cons_zero, List.set_cons_succ]
                      refine wpAnyH_take (i := 9) (v := ?vZp3n29) (take_list rfl) (by kernel_rfl) (by kernel_rfl) (by kernel_rfl) (fun _ _ _ h => h) (Or.inl ⟨by rfl, ?hyZp3n29⟩) (by assumption) ?restZp3n29
                      case hyZp3n29 => (intro w hSw; (try dsimp only at hSw); go_simp <;> with_reducible rfl)
                      try simp only [Act.put, List.setIfInBounds_toArray, List.set_cons_zero, List.set_cons_succ]
                      refine wpAnyH_take (i := 10) (v := ?vZp3n210) (take_list rfl) (by kernel_rfl) (by kernel_rfl) (by kernel_rfl) (fun _ _ _ h => h) (Or.inl ⟨by rfl, ?hyZp3n210⟩) (by assumption) ?restZp3n210
                      case hyZp3n210 => (intro w hSw; (try dsimp only at hSw); go_simp <;> with_reducible rfl)
                      try simp only [Act.put, List.setIfInBounds_toArray, List.set_cons_zero, List.set_cons_succ]
                      refine wpAnyH_take (i := 11) (v := ?vZp3n211) (take_list rfl) (by kernel_rfl) (by kernel_rfl) (by kernel_rfl) (fun _ _ _ h => h) (Or.inl ⟨by rfl, ?hyZp3n211⟩) (by assumption) ?restZp3n211
                      case hyZp3n211 => (intro w hSw; (try dsimp only at hSw); go_simp <;> with_reducible rfl)
                      try simp only [Act.put, List.setIfInBounds_toArray, List.set_cons_zero, List.set_cons_succ]
                      refine wpAnyH_take (i := 12) (v := ?vZp3n212) (take_list rfl) (by kernel_rfl) (by kernel_rfl) (by kernel_rfl) (fun _ _ _ h => h) (Or.inl ⟨by rfl, ?hyZp3n212⟩) (by assumption) ?restZp3n212
                      case hyZp3n212 => (intro w hSw; (try dsimp only at hSw); go_simp <;> with_reducible rfl)
                      try simp only [Act.put, List.setIfInBounds_toArray, List.set_cons_zero, List.set_cons_succ]
                      refine wpAnyH_take (i := 13) (v := ?vZp3n213) (take_list rfl) (by kernel_rfl) (by kernel_rfl) (by kernel_rfl) (fun _ _ _ h => h) (Or.inl ⟨by rfl, ?hyZp3n213⟩) (by assumption) ?restZp3n213
                      case hyZp3n213 => (intro w hSw; (try dsimp only at hSw); go_simp <;> with_reducible rfl)
                      try simp only [Act.put, List.setIfInBounds_toArray, List.set_cons_zero, List.set_cons_succ]
                      refine wpAnyH_take (i := 14) (v := ?vZp3n214) (take_list rfl) (by kernel_rfl) (by kernel_rfl) (by kernel_rfl) (fun _ _ _ h => h) (Or.inl ⟨by rfl, ?hyZp3n214⟩) (by assumption) ?restZp3n214
                      case hyZp3n214 => (intro w hSw; (try dsimp only at hSw); go_simp <;> with_reducible rfl)
                      try simp only [Act.put, List.setIfInBounds_toArray, List.set_cons_zero, List.set_cons_succ]
                      refine wpAnyH_take (i := 15) (v := ?vZp3n215) (take_list rfl) (by kernel_rfl) (by kernel_rfl) (by kernel_rfl) (fun _ _ _ h => h) (Or.inl ⟨by rfl, ?hyZp3n215⟩) (by assumption) ?restZp3n215
                      case hyZp3n215 => (intro w hSw; (try dsimp only at hSw); go_simp <;> with_reducible rfl)
                      try simp only [Act.put, List.setIfInBounds_toArray, List.set_cons_zero, List.set_cons_succ]
                      refine wpAnyH_take (i := 16) (v := ?vZp3n216) (take_list rfl) (by kernel_rfl) (by kernel_rfl) (by kernel_rfl) (fun _ _ _ h => h) (Or.inl ⟨by rfl, ?hyZp3n216⟩) (by assumption) ?restZp3n216
                      case hyZp3n216 => (intro w hSw; (try dsimp only at hSw); go_simp <;> with_reducible rfl)
                      try simp only [Act.put, List.setIfInBounds_toArray, List.set_cons_zero, List.set_cons_succ]
                      refine wpAnyH_take (i := 17) (v := ?vZp3n217) (take_list rfl) (by kernel_rfl) (by kernel_rfl) (by kernel_rfl) (fun _ _ _ h => h) (Or.inl ⟨by rfl, ?hyZp3n217⟩) (by assumption) ?restZp3n217
                      case hyZp3n217 => (intro w hSw; (try dsimp only at hSw); go_simp <;> with_reducible rfl)
                      try simp only [Act.put, List.setIfInBounds_toArray, List.set_cons_zero, List.set_cons_succ]
                      refine wpAnyH_take (i := 18) (v := ?vZp3n218) (take_list rfl) (by kernel_rfl) (by kernel_rfl) (by kernel_rfl) (fun _ _ _ h => h) (Or.inl ⟨by rfl, ?hyZp3n218⟩) (by assumption) ?restZp3n218
                      case hyZp3n218 => (intro w hSw; (try dsimp only at hSw); go_simp <;> with_reducible rfl)
                      try simp only [Act.put, List.setIfInBounds_toArray, List.set_cons_zero, List.set_cons_succ]
                      refine wpAnyH_take (i := 19) (v := ?vZp3n219) (take_list rfl) (by kernel_rfl) (by kernel_rfl) (by kernel_rfl) (fun _ _ _ h => h) (Or.inl ⟨by rfl, ?hyZp3n219⟩) (by assumption) ?restZp3n219
                      case hyZp3n219 => (intro w hSw; (try dsimp only at hSw); go_simp <;> with_reducible rfl)
                      try simp only [Act.put, List.setIfInBounds_toArray, List.set_cons_zero, List.set_cons_succ]
                      refine wpAnyH_take (i := 20) (v := ?vZp3n220) (take_list rfl) (by kernel_rfl) (by kernel_rfl) (by kernel_rfl) (fun _ _ _ h => h) (Or.inl ⟨by rfl, ?hyZp3n220⟩) (by assumption) ?restZp3n220
                      case hyZp3n220 => (intro w hSw; (try dsimp only at hSw); go_simp <;> with_reducible rfl)
                      try simp only [Act.put, List.setIfInBounds_toArray, List.set_cons_zero, List.set_cons_succ]
                      refine wpAnyH_take (i := 21) (v := ?vZp3n221) (take_list rfl) (by kernel_rfl) (by kernel_rfl) (by kernel_rfl) (fun _ _ _ h => h) (Or.inl ⟨by rfl, ?hyZp3n221⟩) (by assumption) ?restZp3n221
                      case hyZp3n221 => (intro w hSw; (try dsimp only at hSw); go_simp <;> with_reducible rfl)
                      try simp only [Act.put, List.setIfInBounds_toArray, List.set_cons_zero, List.set_cons_succ]
                      refine wpAnyH_take (i := 22) (v := ?vZp3n222) (take_list rfl) (by kernel_rfl) (by kernel_rfl) (by kernel_rfl) (fun _ _ _ h => h) (Or.inl ⟨by rfl, ?hyZp3n222⟩) (by assumption) ?restZp3n222
                      case hyZp3n222 => (intro w hSw; (try dsimp only at hSw); go_simp <;> with_reducible rfl)
                      try simp only [Act.put, List.setIfInBounds_toArray, List.set_cons_zero, List.set_cons_succ]
                      refine wpAnyH_take (i := 23) (v := ?vZp3n223) (take_list rfl) (by kernel_rfl) (by kernel_rfl) (by kernel_rfl) (fun _ _ _ h => h) (Or.inl ⟨by rfl, ?hyZp3n223⟩) (by assumption) ?restZp3n223
                      case hyZp3n223 => (intro w hSw; (try dsimp only at hSw); go_simp <;> with_reducible rfl)
                      try simp only [Act.put, List.setIfInBounds_toArray, List.set_cons_zero, List.set_cons_succ]
                      refine wpAnyH_take (i := 24) (v := ?vZp3n224) (take_list rfl) (by kernel_rfl) (by kernel_rfl) (by kernel_rfl) (fun _ _ _ h => h) (Or.inl ⟨by rfl, ?hyZp3n224⟩) (by assumption) ?restZp3n224
                      case hyZp3n224 => (intro w hSw; (try dsimp only at hSw); go_simp <;> with_reducible rfl)
                      try simp only [Act.put, List.setIfInBounds_toArray, List.set_cons_zero, List.set_cons_succ]
                      refine wpAnyH_take (i := 25) (v := ?vZp3n225) (take_list rfl) (by kernel_rfl) (by kernel_rfl) (by kernel_rfl) (fun _ _ _ h => h) (Or.inl ⟨by rfl, ?hyZp3n225⟩) (by assumption) ?restZp3n225
                      case hyZp3n225 => (intro w hSw; (try dsimp only at hSw); go_simp <;> with_reducible rfl)
                      try simp only [Act.put, List.setIfInBounds_toArray, List.set_cons_zero, List.set_cons_succ]
                      refine wpAnyH_take (i := 26) (v := ?vZp3n226) (take_list rfl) (by kernel_rfl) (by kernel_rfl) (by kernel_rfl) (fun _ _ _ h => h) (Or.inl ⟨by rfl, ?hyZp3n226⟩) (by assumption) ?restZp3n226
                      case hyZp3n226 => (intro w hSw; (try dsimp only at hSw); go_simp <;> with_reducible rfl)
                      try simp only [Act.put, List.setIfInBounds_toArray, List.set_cons_zero, List.set_cons_succ]
                      refine wpAnyH_take (i := 27) (v := ?vZp3n227) (take_list rfl) (by kernel_rfl) (by kernel_rfl) (by kernel_rfl) (fun _ _ _ h => h) (Or.inl ⟨by rfl, ?hyZp3n227⟩) (by assumption) ?restZp3n227
                      case hyZp3n227 => (intro w hSw; (try dsimp only at hSw); go_simp <;> with_reducible rfl)
                      try simp only [Act.put, List.setIfInBounds_toArray, List.set_cons_zero, List.set_cons_succ]
                      refine wpAnyH_take (i := 28) (v := ?vZp3n228) (take_list rfl) (by kernel_rfl) (by kernel_rfl) (by kernel_rfl) (fun _ _ _ h => h) (Or.inl ⟨by rfl, ?hyZp3n228⟩) (by assumption) ?restZp3n228
                      case hyZp3n228 => (intro w hSw; (try dsimp only at hSw); go_simp <;> with_reducible rfl)
                      try simp only [Act.put, List.setIfInBounds_toArray, List.set_cons_zero, List.set_cons_succ]
                      refine wpAnyH_take (i := 29) (v := ?vZp3n229) (take_list rfl) (by kernel_rfl) (by kernel_rfl) (by kernel_rfl) (fun _ _ _ h => h) (Or.inl ⟨by rfl, ?hyZp3n229⟩) (by assumption) ?restZp3n229
                      case hyZp3n229 => (intro w hSw; (try dsimp only at hSw); go_simp <;> with_reducible rfl)
                      try simp only [Act.put, List.setIfInBounds_toArray, List.set_cons_zero, List.set_cons_succ]
                      refine wpAnyH_take (i := 30) (v := undef) (take_list rfl) (by kernel_rfl) (by kernel_rfl) (by kernel_rfl) (fun _ _ _ h => h) (Or.inr ⟨by rfl, rfl⟩) (by assumption) ?_
                      try simp only [Act.put, List.setIfInBounds_toArray, List.set_cons_zero, List.set_cons_succ]
                      refine wpAnyH_take (i := 31) (v := undef) (take_list rfl) (by kernel_rfl) (by kernel_rfl) (by kernel_rfl) (fun _ _ _ h => h) (Or.inr ⟨by rfl, rfl⟩) (by assumption) ?_
                      try simp only [Act.put, List.setIfInBounds_toArray, List.set_cons_zero, List.set_cons_succ]
                      refine wpAnyH_take (i := 32) (v := undef) (take_list rfl) (by kernel_rfl) (by kernel_rfl) (by kernel_rfl) (fun _ _ _ h => h) (Or.inr ⟨by rfl, rfl⟩) (by assumption) ?_
                      try simp only [Act.put, List.setIfInBounds_toArray, List.set_cons_zero, List.set_cons_succ]
                      refine wpAnyH_take (i := 33) (v := undef) (take_list rfl) (by kernel_rfl) (by kernel_rfl) (by kernel_rfl) (fun _ _ _ h => h) (Or.inr ⟨by rfl, rfl⟩) (by assumption) ?_
                      try simp only [Act.put, List.setIfInBounds_toArray, List.set_cons_zero, List.set_cons_succ]
                      refine wpAnyH_take (i := 34) (v := undef) (take_list rfl) (by kernel_rfl) (by kernel_rfl) (by kernel_rfl) (fun _ _ _ h => h) (Or.inr ⟨by rfl, rfl⟩) (by assumption) ?_
                      try simp only [Act.put, List.setIfInBounds_toArray, List.set_cons_zero, List.set_cons_succ]
                      refine wpAnyH_take (i := 35) (v := undef) (take_list rfl) (by kernel_rfl) (by kernel_rfl) (by kernel_rfl) (fun _ _ _ h => h) (Or.inr ⟨by rfl, rfl⟩) (by assumption) ?_
                      try simp only [Act.put, List.setIfInBounds_toArray, List.set_cons_zero, List.set_cons_succ]
                      refine wpAnyH_take (i := 36) (v := undef) (take_list rfl) (by kernel_rfl) (by kernel_rfl) (by kernel_rfl) (fun _ _ _ h => h) (Or.inr ⟨by rfl, rfl⟩) (by assumption) ?_
                      try simp only [Act.put, List.setIfInBounds_toArray, List.set_cons_zero, List.set_cons_succ]
                      refine wpAnyH_take (i := 37) (v := undef) (take_list rfl) (by kernel_rfl) (by kernel_rfl) (by kernel_rfl) (fun _ _ _ h => h) (Or.inr ⟨by rfl, rfl⟩) (by assumption) ?_
                      try simp only [Act.put, List.setIfInBounds_toArray, List.set_cons_zero, List.set_cons_succ]
                      refine wpAnyH_take (i := 38) (v := undef) (take_list rfl) (by kernel_rfl) (by kernel_rfl) (by kernel_rfl) (fun _ _ _ h => h) (Or.inr ⟨by rfl, rfl⟩) (by assumption) ?_
                      try simp only [Act.put, List.setIfInBounds_toArray, List.set_cons_zero, List.set_cons_succ]
                      refine wpAnyH_take (i := 39) (v := ?vZp3n239) (take_list rfl) (by kernel_rfl) (by kernel_rfl) (by kernel_rfl) (fun _ _ _ h => h) (Or.inl ⟨by rfl, ?hyZp3n239⟩) (by assumption) ?restZp3n239
                      case hyZp3n239 => (intro w hSw; (try dsimp only at hSw); go_simp <;> with_reducible rfl)
                      try simp only [Act.put, List.setIfInBounds_toArray, List.set_cons_zero, List.set_cons_succ]
                      refine wpAnyH_done (by kernel_rfl) ?_ _
                      go_wp2_with fail
                      go_roundw
                      case rel => first | exact ⟨k + 1, rfl, hlk, BK.out.trans ((BM.out.trans ((show Below wm.heap.size wm _ from by first | exact KB.out | exact below_drewed _ wm | exact below_of_drew KB.out).mono hzm)).mono hzp)⟩ | ((repeat apply Exists.intro); exact ⟨⟨k + 1, rfl, hlk, BK.out.trans ((BM.out.trans ((show Below wm.heap.size wm _ from by first | exact KB.out | exact below_drewed _ wm | exact below_of_drew KB.out).mono hzm)).mono hzp)⟩, rfl⟩)
                      case measure => (simp only [intOf]; omega)
                  · have qc2 : (p.r.kind == 3) = false := by simpa using cZ2
                    clear cZ0 cZ1 cZ2
                    refine wp_region_held_drew (S := (fun w' => w'.cell? ⟨bA, oA + k * 12 + 2, none⟩ = some (.int .i64 p.r.kind) ∧ w'.cell? ⟨bA, oA + k * 12 + 3, none⟩ = some (.int .i64 p.r.cart) ∧ w'.cell? ⟨bA, oA + k * 12 + 4, none⟩ = some (strV p.r.key) ∧ w'.cell? ⟨bA, oA + k * 12 + 5, none⟩ = some (.int .i64 p.r.gen) ∧ w'.cell? ⟨bA, oA + k * 12 + 6, none⟩ = some (.int .i64 p.r.group) ∧ w'.cell? ⟨bA, oA + k * 12 + 7, none⟩ = some (.int .i64 p.r.groups) ∧ w'.cell? ⟨bA, oA + k * 12 + 8, none⟩ = some (.int .i64 p.r.index) ∧ w'.cell? ⟨bA, oA + k * 12 + 9, none⟩ = some (.int .i64 p.r.size) ∧ w'.cell? ⟨bA, oA + k * 12 + 10, none⟩ = some (strV p.r.sum) ∧ w'.cell? ⟨bA, oA + k * 12 + 11, none⟩ = some (.slice p.A p.r.data.length p.c) ∧ w'.cell? ⟨wo.heap.size, 0, none⟩ = some (strV e.b.key) ∧ w'.cell? ⟨wo.heap.size, 1, none⟩ = some (.int .i64 e.b.gen) ∧ w'.cell? ⟨wo.heap.size, 2, none⟩ = some (.int .i64 e.b.size) ∧ w'.cell? ⟨wo.heap.size, 3, none⟩ = some (strV e.b.sum) ∧ w'.cell? ⟨wo.heap.size, 4, none⟩ = some (.slice (some ⟨e.g, 0, none⟩) (q * 10) (q * 10)))) (by kernel_rfl) ⟨r2, r3, r4, r5, r6, r7, r8, r9, r10, r11, t0, t1, t2, t3, t4⟩ (fun hHeld => ?_)
                    refine wpAnyH_take (i := 0) (v := ?vZp2n30) (take_list rfl) (by kernel_rfl) (by kernel_rfl) (by kernel_rfl) (fun _ _ _ h => h) (Or.inl ⟨by rfl, ?hyZp2n30⟩) (by assumption) ?restZp2n30
                    case hyZp2n30 => (intro w hSw; (try dsimp only at hSw); go_simp <;> with_reducible rfl)
                    try simp only [Act.put, List.setIfInBounds_toArray, List.set_cons_zero, List.set_cons_succ]
                    refine wpAnyH_take (i := 1) (v := ?vZp2n31) (take_list rfl) (by kernel_rfl) (by kernel_rfl) (by kernel_rfl) (fun _ _ _ h => h) (Or.inl ⟨by rfl, ?hyZp2n31⟩) (by assumption) ?restZp2n31
                    case hyZp2n31 => (intro w hSw; (try dsimp only at hSw); go_simp <;> with_reducible rfl)
                    try simp only [Act.put, List.setIfInBounds_toArray, List.set_cons_zero, List.set_cons_succ]
                    refine wpAnyH_take (i := 2) (v := ?vZp2n32) (take_list rfl) (by kernel_rfl) (by kernel_rfl) (by kernel_rfl) (fun _ _ _ h => h) (Or.inl ⟨by rfl, ?hyZp2n32⟩) (by assumption) ?restZp2n32
                    case hyZp2n32 => (intro w hSw; (try dsimp only at hSw); go_simp <;> with_reducible rfl)
                    try simp only [Act.put, List.setIfInBounds_toArray, List.set_cons_zero, List.set_cons_succ]
                    refine wpAnyH_take (i := 3) (v := ?vZp2n33) (take_list rfl) (by kernel_rfl) (by kernel_rfl) (by kernel_rfl) (fun _ _ _ h => h) (Or.inl ⟨by rfl, ?hyZp2n33⟩) (by assumption) ?restZp2n33
                    case hyZp2n33 => (intro w hSw; (try dsimp only at hSw); go_simp <;> with_reducible rfl)
                    try simp only [Act.put, List.setIfInBounds_toArray, List.set_cons_zero, List.set_cons_succ]
                    refine wpAnyH_take (i := 4) (v := ?vZp2n34) (take_list rfl) (by kernel_rfl) (by kernel_rfl) (by kernel_rfl) (fun _ _ _ h => h) (Or.inl ⟨by rfl, ?hyZp2n34⟩) (by assumption) ?restZp2n34
                    case hyZp2n34 => (intro w hSw; (try dsimp only at hSw); go_simp <;> with_reducible rfl)
                    try simp only [Act.put, List.setIfInBounds_toArray, List.set_cons_zero, List.set_cons_succ]
                    refine wpAnyH_take (i := 5) (v := ?vZp2n35) (take_list rfl) (by kernel_rfl) (by kernel_rfl) (by kernel_rfl) (fun _ _ _ h => h) (Or.inl ⟨by rfl, ?hyZp2n35⟩) (by assumption) ?restZp2n35
                    case hyZp2n35 => (intro w hSw; (try dsimp only at hSw); go_simp <;> with_reducible rfl)
                    try simp only [Act.put, List.setIfInBounds_toArray, List.set_cons_zero, List.set_cons_succ]
                    refine wpAnyH_take (i := 6) (v := ?vZp2n36) (take_list rfl) (by kernel_rfl) (by kernel_rfl) (by kernel_rfl) (fun _ _ _ h => h) (Or.inl ⟨by rfl, ?hyZp2n36⟩) (by assumption) ?restZp2n36
                    case hyZp2n36 => (intro w hSw; (try dsimp only at hSw); go_simp <;> with_reducible rfl)
                    try simp only [Act.put, List.setIfInBounds_toArray, List.set_cons_zero, List.set_cons_succ]
                    refine wpAnyH_ready (rs := [7]) (by kernel_rfl) (by simp) ?_
                    refine AllReadyH.cons rfl (fun K hK => ?_) AllReadyH.nil
                    go_simp
                    go_wp2_with (go_at_call 14; refine (sGood p.r p.A p.c _).mono ?_; rintro e wg ⟨rfl, hb⟩; rw [qc1]; have KB := Lib.hid (show Below wm.heap.size wm wg from (by first | exact hb | exact below_of_drew hb)); clear hb)
                    clear hHeld
                    refine hK.out _ _ ⟨keepc KB.out hbAm r2, keepc KB.out hbAm r3, keepc KB.out hbAm r4, keepc KB.out hbAm r5, keepc KB.out hbAm r6, keepc KB.out hbAm r7, keepc KB.out hbAm r8, keepc KB.out hbAm r9, keepc KB.out hbAm r10, keepc KB.out hbAm r11, keepc KB.out hzt t0, keepc KB.out hzt t1, keepc KB.out hzt t2, keepc KB.out hzt t3, keepc KB.out hzt t4⟩ (fun hHeld => ?_)
                    clear hK K
                    refine wpAnyH_take (i := 8) (v := ?vZp2n38) (take_list rfl) (by kernel_rfl) (by kernel_rfl) (by kernel_rfl) (fun _ _ _ h => h) (Or.inl ⟨by rfl, ?hyZp2n38⟩) (by assumption) ?restZp2n38
                    case hyZp2n38 => (intro w hSw; (try dsimp only at hSw); go_simp <;> with_reducible rfl)
                    try simp only [Act.put, List.setIfInBounds_toArray, List.set_cons_zero, List.set_cons_succ]
                    refine wpAnyH_take (i := 9) (v := ?vZp2n39) (take_list rfl) (by kernel_rfl) (by kernel_rfl) (by kernel_rfl) (fun _ _ _ h => h) (Or.inl ⟨by rfl, ?hyZp2n39⟩) (by assumption) ?restZp2n39
                    case hyZp2n39 => (intro w hSw; (try dsimp only at hSw); go_simp <;> with_reducible rfl)
                    try simp only [Act.put, List.setIfInBounds_toArray, List.set_cons_zero, List.set_cons_succ]
                    refine wpAnyH_take (i := 10) (v := ?vZp2n310) (take_list rfl) (by kernel_rfl) (by kernel_rfl) (by kernel_rfl) (fun _ _ _ h => h) (Or.inl ⟨by rfl, ?hyZp2n310⟩) (by assumption) ?restZp2n310
                    case hyZp2n310 => (intro w hSw; (try dsimp only at hSw); go_simp <;> with_reducible rfl)
                    try simp only [Act.put, List.setIfInBounds_toArray, List.set_cons_zero, List.set_cons_succ]
                    refine wpAnyH_take (i := 11) (v := ?vZp2n311) (take_list rfl) (by kernel_rfl) (by kernel_rfl) (by kernel_rfl) (fun _ _ _ h => h) (Or.inl ⟨by rfl, ?hyZp2n311⟩) (by assumption) ?restZp2n311
                    case hyZp2n311 => (intro w hSw; (try dsimp only at hSw); go_simp <;> with_reducible rfl)
                    try simp only [Act.put, List.setIfInBounds_toArray, List.set_cons_zero, List.set_cons_succ]
                    refine wpAnyH_take (i := 12) (v := ?vZp2n312) (take_list rfl) (by kernel_rfl) (by kernel_rfl) (by kernel_rfl) (fun _ _ _ h => h) (Or.inl ⟨by rfl, ?hyZp2n312⟩) (by assumption) ?restZp2n312
                    case hyZp2n312 => (intro w hSw; (try dsimp only at hSw); go_simp <;> with_reducible rfl)
                    try simp only [Act.put, List.setIfInBounds_toArray, List.set_cons_zero, List.set_cons_succ]
                    refine wpAnyH_take (i := 13) (v := ?vZp2n313) (take_list rfl) (by kernel_rfl) (by kernel_rfl) (by kernel_rfl) (fun _ _ _ h => h) (Or.inl ⟨by rfl, ?hyZp2n313⟩) (by assumption) ?restZp2n313
                    case hyZp2n313 => (intro w hSw; (try dsimp only at hSw); go_simp <;> with_reducible rfl)
                    try simp only [Act.put, List.setIfInBounds_toArray, List.set_cons_zero, List.set_cons_succ]
                    refine wpAnyH_take (i := 14) (v := ?vZp2n314) (take_list rfl) (by kernel_rfl) (by kernel_rfl) (by kernel_rfl) (fun _ _ _ h => h) (Or.inl ⟨by rfl, ?hyZp2n314⟩) (by assumption) ?restZp2n314
                    case hyZp2n314 => (intro w hSw; (try dsimp only at hSw); go_simp <;> with_reducible rfl)
                    try simp only [Act.put, List.setIfInBounds_toArray, List.set_cons_zero, List.set_cons_succ]
                    refine wpAnyH_take (i := 15) (v := ?vZp2n315) (take_list rfl) (by kernel_rfl) (by kernel_rfl) (by kernel_rfl) (fun _ _ _ h => h) (Or.inl ⟨by rfl, ?hyZp2n315⟩) (by assumption) ?restZp2n315
                    case hyZp2n315 => (intro w hSw; (try dsimp only at hSw); go_simp <;> with_reducible rfl)
                    try simp only [Act.put, List.setIfInBounds_toArray, List.set_cons_zero, List.set_cons_succ]
                    refine wpAnyH_take (i := 16) (v := ?vZp2n316) (take_list rfl) (by kernel_rfl) (by kernel_rfl) (by kernel_rfl) (fun _ _ _ h => h) (Or.inl ⟨by rfl, ?hyZp2n316⟩) (by assumption) ?restZp2n316
                    case hyZp2n316 => (intro w hSw; (try dsimp only at hSw); go_simp <;> with_reducible rfl)
                    try simp only [Act.put, List.setIfInBounds_toArray, List.set_cons_zero, List.set_cons_succ]
                    refine wpAnyH_take (i := 17) (v := ?vZp2n317) (take_list rfl) (by kernel_rfl) (by kernel_rfl) (by kernel_rfl) (fun _ _ _ h => h) (Or.inl ⟨by rfl, ?hyZp2n317⟩) (by assumption) ?restZp2n317
                    case hyZp2n317 => (intro w hSw; (try dsimp only at hSw); go_simp <;> with_reducible rfl)
                    try simp only [Act.put, List.setIfInBounds_toArray, List.set_cons_zero, List.set_cons_succ]
                    refine wpAnyH_take (i := 18) (v := ?vZp2n318) (take_list rfl) (by kernel_rfl) (by kernel_rfl) (by kernel_rfl) (fun _ _ _ h => h) (Or.inl ⟨by rfl, ?hyZp2n318⟩) (by assumption) ?restZp2n318
                    case hyZp2n318 => (intro w hSw; (try dsimp only at hSw); go_simp <;> with_reducible rfl)
                    try simp only [Act.put, List.setIfInBounds_toArray, List.set_cons_zero, List.set_cons_succ]
                    refine wpAnyH_take (i := 19) (v := undef) (take_list rfl) (by kernel_rfl) (by kernel_rfl) (by kernel_rfl) (fun _ _ _ h => h) (Or.inr ⟨by rfl, rfl⟩) (by assumption) ?_
                    try simp only [Act.put, List.setIfInBounds_toArray, List.set_cons_zero, List.set_cons_succ]
                    refine wpAnyH_take (i := 20) (v := undef) (take_list rfl) (by kernel_rfl) (by kernel_rfl) (by kernel_rfl) (fun _ _ _ h => h) (Or.inr ⟨by rfl, rfl⟩) (by assumption) ?_
                    try simp only [Act.put, List.setIfInBounds_toArray, List.set_cons_zero, List.set_cons_succ]
                    refine wpAnyH_take (i := 21) (v := undef) (take_list rfl) (by kernel_rfl) (by kernel_rfl) (by kernel_rfl) (fun _ _ _ h => h) (Or.inr ⟨by rfl, rfl⟩) (by assumption) ?_
                    try simp only [Act.put, List.setIfInBounds_toArray, List.set_cons_zero, List.set_cons_succ]
                    refine wpAnyH_take (i := 22) (v := undef) (take_list rfl) (by kernel_rfl) (by kernel_rfl) (by kernel_rfl) (fun _ _ _ h => h) (Or.inr ⟨by rfl, rfl⟩) (by assumption) ?_
                    try simp only [Act.put, List.setIfInBounds_toArray, List.set_cons_zero, List.set_cons_succ]
                    refine wpAnyH_take (i := 23) (v := undef) (take_list rfl) (by kernel_rfl) (by kernel_rfl) (by kernel_rfl) (fun _ _ _ h => h) (Or.inr ⟨by rfl, rfl⟩) (by assumption) ?_
                    try simp only [Act.put, List.setIfInBounds_toArray, List.set_cons_zero, List.set_cons_succ]
                    refine wpAnyH_take (i := 24) (v := undef) (take_list rfl) (by kernel_rfl) (by kernel_rfl) (by kernel_rfl) (fun _ _ _ h => h) (Or.inr ⟨by rfl, rfl⟩) (by assumption) ?_
                    try simp only [Act.put, List.setIfInBounds_toArray, List.set_cons_zero, List.set_cons_succ]
                    refine wpAnyH_take (i := 25) (v := undef) (take_list rfl) (by kernel_rfl) (by kernel_rfl) (by kernel_rfl) (fun _ _ _ h => h) (Or.inr ⟨by rfl, rfl⟩) (by assumption) ?_
                    try simp only [Act.put, List.setIfInBounds_toArray, List.set_cons_zero, List.set_cons_succ]
                    refine wpAnyH_take (i := 26) (v := undef) (take_list rfl) (by kernel_rfl) (by kernel_rfl) (by kernel_rfl) (fun _ _ _ h => h) (Or.inr ⟨by rfl, rfl⟩) (by assumption) ?_
                    try simp only [Act.put, List.setIfInBounds_toArray, List.set_cons_zero, List.set_cons_succ]
                    refine wpAnyH_take (i := 27) (v := undef) (take_list rfl) (by kernel_rfl) (by kernel_rfl) (by kernel_rfl) (fun _ _ _ h => h) (Or.inr ⟨by rfl, rfl⟩) (by assumption) ?_
                    try simp only [Act.put, List.setIfInBounds_toArray, List.set_cons_zero, List.set_cons_succ]
                    refine wpAnyH_take (i := 28) (v := ?vZp2n328) (take_list rfl) (by kernel_rfl) (by kernel_rfl) (by kernel_rfl) (fun _ _ _ h => h) (Or.inl ⟨by rfl, ?hyZp2n328⟩) (by assumption) ?restZp2n328
                    case hyZp2n328 => (intro w hSw; (try dsimp only at hSw); go_simp <;> with_reducible rfl)
                    try simp only [Act.put, List.setIfInBounds_toArray, List.set_cons_zero, List.set_cons_succ]
                    refine wpAnyH_take (i := 29) (v := ?vZp2n329) (take_list rfl) (by kernel_rfl) (by kernel_rfl) (by kernel_rfl) (fun _ _ _ h => h) (Or.inl ⟨by rfl, ?hyZp2n329⟩) (by assumption) ?restZp2n329
                    case hyZp2n329 => (intro w hSw; (try dsimp only at hSw); go_simp <;> with_reducible rfl)
                    try simp only [Act.put, List.setIfInBounds_toArray, List.set_cons_zero, List.set_cons_succ]
                    refine wpAnyH_take (i := 30) (v := undef) (take_list rfl) (by kernel_rfl) (by kernel_rfl) (by kernel_rfl) (fun _ _ _ h => h) (Or.inr ⟨by rfl, rfl⟩) (by assumption) ?_
                    try simp only [Act.put, List.setIfInBounds_toArray, List.set_cons_zero, List.set_cons_succ]
                    refine wpAnyH_take (i := 31) (v := undef) (take_list rfl) (by kernel_rfl) (by kernel_rfl) (by kernel_rfl) (fun _ _ _ h => h) (Or.inr ⟨by rfl, rfl⟩) (by assumption) ?_
                    try simp only [Act.put, List.setIfInBounds_toArray, List.set_cons_zero, List.set_cons_succ]
                    refine wpAnyH_take (i := 32) (v := undef) (take_list rfl) (by kernel_rfl) (by kernel_rfl) (by kernel_rfl) (fun _ _ _ h => h) (Or.inr ⟨by rfl, rfl⟩) (by assumption) ?_
                    try simp only [Act.put, List.setIfInBounds_toArray, List.set_cons_zero, List.set_cons_succ]
                    refine wpAnyH_take (i := 33) (v := undef) (take_list rfl) (by kernel_rfl) (by kernel_rfl) (by kernel_rfl) (fun _ _ _ h => h) (Or.inr ⟨by rfl, rfl⟩) (by assumption) ?_
                    try simp only [Act.put, List.setIfInBounds_toArray, List.set_cons_zero, List.set_cons_succ]
                    refine wpAnyH_take (i := 34) (v := undef) (take_list rfl) (by kernel_rfl) (by kernel_rfl) (by kernel_rfl) (fun _ _ _ h => h) (Or.inr ⟨by rfl, rfl⟩) (by assumption) ?_
                    try simp only [Act.put, List.setIfInBounds_toArray, List.set_cons_zero, List.set_cons_succ]
                    refine wpAnyH_take (i := 35) (v := undef) (take_list rfl) (by kernel_rfl) (by kernel_rfl) (by kernel_rfl) (fun _ _ _ h => h) (Or.inr ⟨by rfl, rfl⟩) (by assumption) ?_
                    try simp only [Act.put, List.setIfInBounds_toArray, List.set_cons_zero, List.set_cons_succ]
                    refine wpAnyH_take (i := 36) (v := undef) (take_list rfl) (by kernel_rfl) (by kernel_rfl) (by kernel_rfl) (fun _ _ _ h => h) (Or.inr ⟨by rfl, rfl⟩) (by assumption) ?_
                    try simp only [Act.put, List.setIfInBounds_toArray, List.set_cons_zero, List.set_cons_succ]
                    refine wpAnyH_take (i := 37) (v := undef) (take_list rfl) (by kernel_rfl) (by kernel_rfl) (by kernel_rfl) (fun _ _ _ h => h) (Or.inr ⟨by rfl, rfl⟩) (by assumption) ?_
                    try simp only [Act.put, List.setIfInBounds_toArray, List.set_cons_zero, List.set_cons_succ]
                    refine wpAnyH_take (i := 38) (v := undef) (take_list rfl) (by kernel_rfl) (by kernel_rfl) (by kernel_rfl) (fun _ _ _ h => h) (Or.inr ⟨by rfl, rfl⟩) (by assumption) ?_
                    try simp only [Act.put, List.setIfInBounds_toArray, List.set_cons_zero, List.set_cons_succ]
                    refine wpAnyH_take (i := 39) (v := ?vZp2n339) (take_list rfl) (by kernel_rfl) (by kernel_rfl) (by kernel_rfl) (fun _ _ _ h => h) (Or.inl ⟨by rfl, ?hyZp2n339⟩) (by assumption) ?restZp2n339
                    case hyZp2n339 => (intro w hSw; (try dsimp only at hSw); go_simp <;> with_reducible rfl)
                    try simp only [Act.put, List.setIfInBounds_toArray, List.set_cons_zero, List.set_cons_succ]
                    refine wpAnyH_done (by kernel_rfl) ?_ _
                    go_wp2_with fail
                    go_roundw
                    case rel => first | exact ⟨k + 1, rfl, hlk, BK.out.trans ((BM.out.trans ((show Below wm.heap.size wm _ from by first | exact KB.out | exact below_drewed _ wm | exact below_of_drew KB.out).mono hzm)).mono hzp)⟩ | ((repeat apply Exists.intro); exact ⟨⟨k + 1, rfl, hlk, BK.out.trans ((BM.out.trans ((show Below wm.heap.size wm _ from by first | exact KB.out | exact below_drewed _ wm | exact below_of_drew KB.out).mono hzm)).mono hzp)⟩, rfl⟩)
                    case measure => (simp only [intOf]; omega)
                · have qc1 : goodV p.r = false := by simpa using cZ1
                  clear cZ0 cZ1
                  refine wp_region_held_drew (S := (fun w' => w'.cell? ⟨bA, oA + k * 12 + 2, none⟩ = some (.int .i64 p.r.kind) ∧ w'.cell? ⟨bA, oA + k * 12 + 3, none⟩ = some (.int .i64 p.r.cart) ∧ w'.cell? ⟨bA, oA + k * 12 + 4, none⟩ = some (strV p.r.key) ∧ w'.cell? ⟨bA, oA + k * 12 + 5, none⟩ = some (.int .i64 p.r.gen) ∧ w'.cell? ⟨bA, oA + k * 12 + 6, none⟩ = some (.int .i64 p.r.group) ∧ w'.cell? ⟨bA, oA + k * 12 + 7, none⟩ = some (.int .i64 p.r.groups) ∧ w'.cell? ⟨bA, oA + k * 12 + 8, none⟩ = some (.int .i64 p.r.index) ∧ w'.cell? ⟨bA, oA + k * 12 + 9, none⟩ = some (.int .i64 p.r.size) ∧ w'.cell? ⟨bA, oA + k * 12 + 10, none⟩ = some (strV p.r.sum) ∧ w'.cell? ⟨bA, oA + k * 12 + 11, none⟩ = some (.slice p.A p.r.data.length p.c) ∧ w'.cell? ⟨wo.heap.size, 0, none⟩ = some (strV e.b.key) ∧ w'.cell? ⟨wo.heap.size, 1, none⟩ = some (.int .i64 e.b.gen) ∧ w'.cell? ⟨wo.heap.size, 2, none⟩ = some (.int .i64 e.b.size) ∧ w'.cell? ⟨wo.heap.size, 3, none⟩ = some (strV e.b.sum) ∧ w'.cell? ⟨wo.heap.size, 4, none⟩ = some (.slice (some ⟨e.g, 0, none⟩) (q * 10) (q * 10)))) (by kernel_rfl) ⟨r2, r3, r4, r5, r6, r7, r8, r9, r10, r11, t0, t1, t2, t3, t4⟩ (fun hHeld => ?_)
                  refine wpAnyH_take (i := 0) (v := ?vZp1n40) (take_list rfl) (by kernel_rfl) (by kernel_rfl) (by kernel_rfl) (fun _ _ _ h => h) (Or.inl ⟨by rfl, ?hyZp1n40⟩) (by assumption) ?restZp1n40
                  case hyZp1n40 => (intro w hSw; (try dsimp only at hSw); go_simp <;> with_reducible rfl)
                  try simp only [Act.put, List.setIfInBounds_toArray, List.set_cons_zero, List.set_cons_succ]
                  refine wpAnyH_take (i := 1) (v := ?vZp1n41) (take_list rfl) (by kernel_rfl) (by kernel_rfl) (by kernel_rfl) (fun _ _ _ h => h) (Or.inl ⟨by rfl, ?hyZp1n41⟩) (by assumption) ?restZp1n41
                  case hyZp1n41 => (intro w hSw; (try dsimp only at hSw); go_simp <;> with_reducible rfl)
                  try simp only [Act.put, List.setIfInBounds_toArray, List.set_cons_zero, List.set_cons_succ]
                  refine wpAnyH_take (i := 2) (v := ?vZp1n42) (take_list rfl) (by kernel_rfl) (by kernel_rfl) (by kernel_rfl) (fun _ _ _ h => h) (Or.inl ⟨by rfl, ?hyZp1n42⟩) (by assumption) ?restZp1n42
                  case hyZp1n42 => (intro w hSw; (try dsimp only at hSw); go_simp <;> with_reducible rfl)
                  try simp only [Act.put, List.setIfInBounds_toArray, List.set_cons_zero, List.set_cons_succ]
                  refine wpAnyH_take (i := 3) (v := ?vZp1n43) (take_list rfl) (by kernel_rfl) (by kernel_rfl) (by kernel_rfl) (fun _ _ _ h => h) (Or.inl ⟨by rfl, ?hyZp1n43⟩) (by assumption) ?restZp1n43
                  case hyZp1n43 => (intro w hSw; (try dsimp only at hSw); go_simp <;> with_reducible rfl)
                  try simp only [Act.put, List.setIfInBounds_toArray, List.set_cons_zero, List.set_cons_succ]
                  refine wpAnyH_take (i := 4) (v := ?vZp1n44) (take_list rfl) (by kernel_rfl) (by kernel_rfl) (by kernel_rfl) (fun _ _ _ h => h) (Or.inl ⟨by rfl, ?hyZp1n44⟩) (by assumption) ?restZp1n44
                  case hyZp1n44 => (intro w hSw; (try dsimp only at hSw); go_simp <;> with_reducible rfl)
                  try simp only [Act.put, List.setIfInBounds_toArray, List.set_cons_zero, List.set_cons_succ]
                  refine wpAnyH_take (i := 5) (v := ?vZp1n45) (take_list rfl) (by kernel_rfl) (by kernel_rfl) (by kernel_rfl) (fun _ _ _ h => h) (Or.inl ⟨by rfl, ?hyZp1n45⟩) (by assumption) ?restZp1n45
                  case hyZp1n45 => (intro w hSw; (try dsimp only at hSw); go_simp <;> with_reducible rfl)
                  try simp only [Act.put, List.setIfInBounds_toArray, List.set_cons_zero, List.set_cons_succ]
                  refine wpAnyH_take (i := 6) (v := ?vZp1n46) (take_list rfl) (by kernel_rfl) (by kernel_rfl) (by kernel_rfl) (fun _ _ _ h => h) (Or.inl ⟨by rfl, ?hyZp1n46⟩) (by assumption) ?restZp1n46
                  case hyZp1n46 => (intro w hSw; (try dsimp only at hSw); go_simp <;> with_reducible rfl)
                  try simp only [Act.put, List.setIfInBounds_toArray, List.set_cons_zero, List.set_cons_succ]
                  refine wpAnyH_ready (rs := [7]) (by kernel_rfl) (by simp) ?_
                  refine AllReadyH.cons rfl (fun K hK => ?_) AllReadyH.nil
                  go_simp
                  go_wp2_with (go_at_call 14; refine (sGood p.r p.A p.c _).mono ?_; rintro e wg ⟨rfl, hb⟩; rw [qc1]; have KB := Lib.hid (show Below wm.heap.size wm wg from (by first | exact hb | exact below_of_drew hb)); clear hb)
                  clear hHeld
                  refine hK.out _ _ ⟨keepc KB.out hbAm r2, keepc KB.out hbAm r3, keepc KB.out hbAm r4, keepc KB.out hbAm r5, keepc KB.out hbAm r6, keepc KB.out hbAm r7, keepc KB.out hbAm r8, keepc KB.out hbAm r9, keepc KB.out hbAm r10, keepc KB.out hbAm r11, keepc KB.out hzt t0, keepc KB.out hzt t1, keepc KB.out hzt t2, keepc KB.out hzt t3, keepc KB.out hzt t4⟩ (fun hHeld => ?_)
                  clear hK K
                  refine wpAnyH_take (i := 8) (v := ?vZp1n48) (take_list rfl) (by kernel_rfl) (by kernel_rfl) (by kernel_rfl) (fun _ _ _ h => h) (Or.inl ⟨by rfl, ?hyZp1n48⟩) (by assumption) ?restZp1n48
                  case hyZp1n48 => (intro w hSw; (try dsimp only at hSw); go_simp <;> with_reducible rfl)
                  try simp only [Act.put, List.setIfInBounds_toArray, List.set_cons_zero, List.set_cons_succ]
                  refine wpAnyH_take (i := 9) (v := ?vZp1n49) (take_list rfl) (by kernel_rfl) (by kernel_rfl) (by kernel_rfl) (fun _ _ _ h => h) (Or.inl ⟨by rfl, ?hyZp1n49⟩) (by assumption) ?restZp1n49
                  case hyZp1n49 => (intro w hSw; (try dsimp only at hSw); go_simp <;> with_reducible rfl)
                  try simp only [Act.put, List.setIfInBounds_toArray, List.set_cons_zero, List.set_cons_succ]
                  refine wpAnyH_take (i := 10) (v := undef) (take_list rfl) (by kernel_rfl) (by kernel_rfl) (by kernel_rfl) (fun _ _ _ h => h) (Or.inr ⟨by rfl, rfl⟩) (by assumption) ?_
                  try simp only [Act.put, List.setIfInBounds_toArray, List.set_cons_zero, List.set_cons_succ]
                  refine wpAnyH_take (i := 11) (v := undef) (take_list rfl) (by kernel_rfl) (by kernel_rfl) (by kernel_rfl) (fun _ _ _ h => h) (Or.inr ⟨by rfl, rfl⟩) (by assumption) ?_
                  try simp only [Act.put, List.setIfInBounds_toArray, List.set_cons_zero, List.set_cons_succ]
                  refine wpAnyH_take (i := 12) (v := undef) (take_list rfl) (by kernel_rfl) (by kernel_rfl) (by kernel_rfl) (fun _ _ _ h => h) (Or.inr ⟨by rfl, rfl⟩) (by assumption) ?_
                  try simp only [Act.put, List.setIfInBounds_toArray, List.set_cons_zero, List.set_cons_succ]
                  refine wpAnyH_take (i := 13) (v := undef) (take_list rfl) (by kernel_rfl) (by kernel_rfl) (by kernel_rfl) (fun _ _ _ h => h) (Or.inr ⟨by rfl, rfl⟩) (by assumption) ?_
                  try simp only [Act.put, List.setIfInBounds_toArray, List.set_cons_zero, List.set_cons_succ]
                  refine wpAnyH_take (i := 14) (v := undef) (take_list rfl) (by kernel_rfl) (by kernel_rfl) (by kernel_rfl) (fun _ _ _ h => h) (Or.inr ⟨by rfl, rfl⟩) (by assumption) ?_
                  try simp only [Act.put, List.setIfInBounds_toArray, List.set_cons_zero, List.set_cons_succ]
                  refine wpAnyH_take (i := 15) (v := undef) (take_list rfl) (by kernel_rfl) (by kernel_rfl) (by kernel_rfl) (fun _ _ _ h => h) (Or.inr ⟨by rfl, rfl⟩) (by assumption) ?_
                  try simp only [Act.put, List.setIfInBounds_toArray, List.set_cons_zero, List.set_cons_succ]
                  refine wpAnyH_take (i := 16) (v := undef) (take_list rfl) (by kernel_rfl) (by kernel_rfl) (by kernel_rfl) (fun _ _ _ h => h) (Or.inr ⟨by rfl, rfl⟩) (by assumption) ?_
                  try simp only [Act.put, List.setIfInBounds_toArray, List.set_cons_zero, List.set_cons_succ]
                  refine wpAnyH_take (i := 17) (v := ?vZp1n417) (take_list rfl) (by kernel_rfl) (by kernel_rfl) (by kernel_rfl) (fun _ _ _ h => h) (Or.inl ⟨by rfl, ?hyZp1n417⟩) (by assumption) ?restZp1n417
                  case hyZp1n417 => (intro w hSw; (try dsimp only at hSw); go_simp <;> with_reducible rfl)
                  try simp only [Act.put, List.setIfInBounds_toArray, List.set_cons_zero, List.set_cons_succ]
                  refine wpAnyH_take (i := 18) (v := ?vZp1n418) (take_list rfl) (by kernel_rfl) (by kernel_rfl) (by kernel_rfl) (fun _ _ _ h => h) (Or.inl ⟨by rfl, ?hyZp1n418⟩) (by assumption) ?restZp1n418
                  case hyZp1n418 => (intro w hSw; (try dsimp only at hSw); go_simp <;> with_reducible rfl)
                  try simp only [Act.put, List.setIfInBounds_toArray, List.set_cons_zero, List.set_cons_succ]
                  refine wpAnyH_take (i := 19) (v := undef) (take_list rfl) (by kernel_rfl) (by kernel_rfl) (by kernel_rfl) (fun _ _ _ h => h) (Or.inr ⟨by rfl, rfl⟩) (by assumption) ?_
                  try simp only [Act.put, List.setIfInBounds_toArray, List.set_cons_zero, List.set_cons_succ]
                  refine wpAnyH_take (i := 20) (v := undef) (take_list rfl) (by kernel_rfl) (by kernel_rfl) (by kernel_rfl) (fun _ _ _ h => h) (Or.inr ⟨by rfl, rfl⟩) (by assumption) ?_
                  try simp only [Act.put, List.setIfInBounds_toArray, List.set_cons_zero, List.set_cons_succ]
                  refine wpAnyH_take (i := 21) (v := undef) (take_list rfl) (by kernel_rfl) (by kernel_rfl) (by kernel_rfl) (fun _ _ _ h => h) (Or.inr ⟨by rfl, rfl⟩) (by assumption) ?_
                  try simp only [Act.put, List.setIfInBounds_toArray, List.set_cons_zero, List.set_cons_succ]
                  refine wpAnyH_take (i := 22) (v := undef) (take_list rfl) (by kernel_rfl) (by kernel_rfl) (by kernel_rfl) (fun _ _ _ h => h) (Or.inr ⟨by rfl, rfl⟩) (by assumption) ?_
                  try simp only [Act.put, List.setIfInBounds_toArray, List.set_cons_zero, List.set_cons_succ]
                  refine wpAnyH_take (i := 23) (v := undef) (take_list rfl) (by kernel_rfl) (by kernel_rfl) (by kernel_rfl) (fun _ _ _ h => h) (Or.inr ⟨by rfl, rfl⟩) (by assumption) ?_
                  try simp only [Act.put, List.setIfInBounds_toArray, List.set_cons_zero, List.set_cons_succ]
                  refine wpAnyH_take (i := 24) (v := undef) (take_list rfl) (by kernel_rfl) (by kernel_rfl) (by kernel_rfl) (fun _ _ _ h => h) (Or.inr ⟨by rfl, rfl⟩) (by assumption) ?_
                  try simp only [Act.put, List.setIfInBounds_toArray, List.set_cons_zero, List.set_cons_succ]
                  refine wpAnyH_take (i := 25) (v := undef) (take_list rfl) (by kernel_rfl) (by kernel_rfl) (by kernel_rfl) (fun _ _ _ h => h) (Or.inr ⟨by rfl, rfl⟩) (by assumption) ?_
                  try simp only [Act.put, List.setIfInBounds_toArray, List.set_cons_zero, List.set_cons_succ]
                  refine wpAnyH_take (i := 26) (v := undef) (take_list rfl) (by kernel_rfl) (by kernel_rfl) (by kernel_rfl) (fun _ _ _ h => h) (Or.inr ⟨by rfl, rfl⟩) (by assumption) ?_
                  try simp only [Act.put, List.setIfInBounds_toArray, List.set_cons_zero, List.set_cons_succ]
                  refine wpAnyH_take (i := 27) (v := undef) (take_list rfl) (by kernel_rfl) (by kernel_rfl) (by kernel_rfl) (fun _ _ _ h => h) (Or.inr ⟨by rfl, rfl⟩) (by assumption) ?_
                  try simp only [Act.put, List.setIfInBounds_toArray, List.set_cons_zero, List.set_cons_succ]
                  refine wpAnyH_take (i := 28) (v := ?vZp1n428) (take_list rfl) (by kernel_rfl) (by kernel_rfl) (by kernel_rfl) (fun _ _ _ h => h) (Or.inl ⟨by rfl, ?hyZp1n428⟩) (by assumption) ?restZp1n428
                  case hyZp1n428 => (intro w hSw; (try dsimp only at hSw); go_simp <;> with_reducible rfl)
                  try simp only [Act.put, List.setIfInBounds_toArray, List.set_cons_zero, List.set_cons_succ]
                  refine wpAnyH_take (i := 29) (v := ?vZp1n429) (take_list rfl) (by kernel_rfl) (by kernel_rfl) (by kernel_rfl) (fun _ _ _ h => h) (Or.inl ⟨by rfl, ?hyZp1n429⟩) (by assumption) ?restZp1n429
                  case hyZp1n429 => (intro w hSw; (try dsimp only at hSw); go_simp <;> with_reducible rfl)
                  try simp only [Act.put, List.setIfInBounds_toArray, List.set_cons_zero, List.set_cons_succ]
                  refine wpAnyH_take (i := 30) (v := undef) (take_list rfl) (by kernel_rfl) (by kernel_rfl) (by kernel_rfl) (fun _ _ _ h => h) (Or.inr ⟨by rfl, rfl⟩) (by assumption) ?_
                  try simp only [Act.put, List.setIfInBounds_toArray, List.set_cons_zero, List.set_cons_succ]
                  refine wpAnyH_take (i := 31) (v := undef) (take_list rfl) (by kernel_rfl) (by kernel_rfl) (by kernel_rfl) (fun _ _ _ h => h) (Or.inr ⟨by rfl, rfl⟩) (by assumption) ?_
                  try simp only [Act.put, List.setIfInBounds_toArray, List.set_cons_zero, List.set_cons_succ]
                  refine wpAnyH_take (i := 32) (v := undef) (take_list rfl) (by kernel_rfl) (by kernel_rfl) (by kernel_rfl) (fun _ _ _ h => h) (Or.inr ⟨by rfl, rfl⟩) (by assumption) ?_
                  try simp only [Act.put, List.setIfInBounds_toArray, List.set_cons_zero, List.set_cons_succ]
                  refine wpAnyH_take (i := 33) (v := undef) (take_list rfl) (by kernel_rfl) (by kernel_rfl) (by kernel_rfl) (fun _ _ _ h => h) (Or.inr ⟨by rfl, rfl⟩) (by assumption) ?_
                  try simp only [Act.put, List.setIfInBounds_toArray, List.set_cons_zero, List.set_cons_succ]
                  refine wpAnyH_take (i := 34) (v := undef) (take_list rfl) (by kernel_rfl) (by kernel_rfl) (by kernel_rfl) (fun _ _ _ h => h) (Or.inr ⟨by rfl, rfl⟩) (by assumption) ?_
                  try simp only [Act.put, List.setIfInBounds_toArray, List.set_cons_zero, List.set_cons_succ]
                  refine wpAnyH_take (i := 35) (v := undef) (take_list rfl) (by kernel_rfl) (by kernel_rfl) (by kernel_rfl) (fun _ _ _ h => h) (Or.inr ⟨by rfl, rfl⟩) (by assumption) ?_
                  try simp only [Act.put, List.setIfInBounds_toArray, List.set_cons_zero, List.set_cons_succ]
                  refine wpAnyH_take (i := 36) (v := undef) (take_list rfl) (by kernel_rfl) (by kernel_rfl) (by kernel_rfl) (fun _ _ _ h => h) (Or.inr ⟨by rfl, rfl⟩) (by assumption) ?_
                  try simp only [Act.put, List.setIfInBounds_toArray, List.set_cons_zero, List.set_cons_succ]
                  refine wpAnyH_take (i := 37) (v := undef) (take_list rfl) (by kernel_rfl) (by kernel_rfl) (by kernel_rfl) (fun _ _ _ h => h) (Or.inr ⟨by rfl, rfl⟩) (by assumption) ?_
                  try simp only [Act.put, List.setIfInBounds_toArray, List.set_cons_zero, List.set_cons_succ]
                  refine wpAnyH_take (i := 38) (v := undef) (take_list rfl) (by kernel_rfl) (by kernel_rfl) (by kernel_rfl) (fun _ _ _ h => h) (Or.inr ⟨by rfl, rfl⟩) (by assumption) ?_
                  try simp only [Act.put, List.setIfInBounds_toArray, List.set_cons_zero, List.set_cons_succ]
                  refine wpAnyH_take (i := 39) (v := ?vZp1n439) (take_list rfl) (by kernel_rfl) (by kernel_rfl) (by kernel_rfl) (fun _ _ _ h => h) (Or.inl ⟨by rfl, ?hyZp1n439⟩) (by assumption) ?restZp1n439
                  case hyZp1n439 => (intro w hSw; (try dsimp only at hSw); go_simp <;> with_reducible rfl)
                  try simp only [Act.put, List.setIfInBounds_toArray, List.set_cons_zero, List.set_cons_succ]
                  refine wpAnyH_done (by kernel_rfl) ?_ _
                  go_wp2_with fail
                  go_roundw
                  case rel => first | exact ⟨k + 1, rfl, hlk, BK.out.trans ((BM.out.trans ((show Below wm.heap.size wm _ from by first | exact KB.out | exact below_drewed _ wm | exact below_of_drew KB.out).mono hzm)).mono hzp)⟩ | ((repeat apply Exists.intro); exact ⟨⟨k + 1, rfl, hlk, BK.out.trans ((BM.out.trans ((show Below wm.heap.size wm _ from by first | exact KB.out | exact below_drewed _ wm | exact below_of_drew KB.out).mono hzm)).mono hzp)⟩, rfl⟩)
                  case measure => (simp only [intOf]; omega)
              · have qc0 : placeV p = false := by simpa using cZ0
                rw [qc0]
                clear cZ0
                refine wp_region_held_drew (S := (fun w' => w'.cell? ⟨bA, oA + k * 12 + 2, none⟩ = some (.int .i64 p.r.kind) ∧ w'.cell? ⟨bA, oA + k * 12 + 3, none⟩ = some (.int .i64 p.r.cart) ∧ w'.cell? ⟨bA, oA + k * 12 + 4, none⟩ = some (strV p.r.key) ∧ w'.cell? ⟨bA, oA + k * 12 + 5, none⟩ = some (.int .i64 p.r.gen) ∧ w'.cell? ⟨bA, oA + k * 12 + 6, none⟩ = some (.int .i64 p.r.group) ∧ w'.cell? ⟨bA, oA + k * 12 + 7, none⟩ = some (.int .i64 p.r.groups) ∧ w'.cell? ⟨bA, oA + k * 12 + 8, none⟩ = some (.int .i64 p.r.index) ∧ w'.cell? ⟨bA, oA + k * 12 + 9, none⟩ = some (.int .i64 p.r.size) ∧ w'.cell? ⟨bA, oA + k * 12 + 10, none⟩ = some (strV p.r.sum) ∧ w'.cell? ⟨bA, oA + k * 12 + 11, none⟩ = some (.slice p.A p.r.data.length p.c) ∧ w'.cell? ⟨wo.heap.size, 0, none⟩ = some (strV e.b.key) ∧ w'.cell? ⟨wo.heap.size, 1, none⟩ = some (.int .i64 e.b.gen) ∧ w'.cell? ⟨wo.heap.size, 2, none⟩ = some (.int .i64 e.b.size) ∧ w'.cell? ⟨wo.heap.size, 3, none⟩ = some (strV e.b.sum) ∧ w'.cell? ⟨wo.heap.size, 4, none⟩ = some (.slice (some ⟨e.g, 0, none⟩) (q * 10) (q * 10)))) (by kernel_rfl) ⟨r2, r3, r4, r5, r6, r7, r8, r9, r10, r11, t0, t1, t2, t3, t4⟩ (fun hHeld => ?_)
                refine wpAnyH_take (i := 0) (v := ?vZp0n50) (take_list rfl) (by kernel_rfl) (by kernel_rfl) (by kernel_rfl) (fun _ _ _ h => h) (Or.inl ⟨by rfl, ?hyZp0n50⟩) (by assumption) ?restZp0n50
                case hyZp0n50 => (intro w hSw; (try dsimp only at hSw); go_simp <;> with_reducible rfl)
                try simp only [Act.put, List.setIfInBounds_toArray, List.set_cons_zero, List.set_cons_succ]
                refine wpAnyH_take (i := 1) (v := ?vZp0n51) (take_list rfl) (by kernel_rfl) (by kernel_rfl) (by kernel_rfl) (fun _ _ _ h => h) (Or.inl ⟨by rfl, ?hyZp0n51⟩) (by assumption) ?restZp0n51
                case hyZp0n51 => (intro w hSw; (try dsimp only at hSw); go_simp <;> with_reducible rfl)
                try simp only [Act.put, List.setIfInBounds_toArray, List.set_cons_zero, List.set_cons_succ]
                refine wpAnyH_take (i := 2) (v := undef) (take_list rfl) (by kernel_rfl) (by kernel_rfl) (by kernel_rfl) (fun _ _ _ h => h) (Or.inr ⟨by rfl, rfl⟩) (by assumption) ?_
                try simp only [Act.put, List.setIfInBounds_toArray, List.set_cons_zero, List.set_cons_succ]
                refine wpAnyH_take (i := 3) (v := undef) (take_list rfl) (by kernel_rfl) (by kernel_rfl) (by kernel_rfl) (fun _ _ _ h => h) (Or.inr ⟨by rfl, rfl⟩) (by assumption) ?_
                try simp only [Act.put, List.setIfInBounds_toArray, List.set_cons_zero, List.set_cons_succ]
                refine wpAnyH_take (i := 4) (v := undef) (take_list rfl) (by kernel_rfl) (by kernel_rfl) (by kernel_rfl) (fun _ _ _ h => h) (Or.inr ⟨by rfl, rfl⟩) (by assumption) ?_
                try simp only [Act.put, List.setIfInBounds_toArray, List.set_cons_zero, List.set_cons_succ]
                refine wpAnyH_take (i := 5) (v := undef) (take_list rfl) (by kernel_rfl) (by kernel_rfl) (by kernel_rfl) (fun _ _ _ h => h) (Or.inr ⟨by rfl, rfl⟩) (by assumption) ?_
                try simp only [Act.put, List.setIfInBounds_toArray, List.set_cons_zero, List.set_cons_succ]
                refine wpAnyH_take (i := 6) (v := undef) (take_list rfl) (by kernel_rfl) (by kernel_rfl) (by kernel_rfl) (fun _ _ _ h => h) (Or.inr ⟨by rfl, rfl⟩) (by assumption) ?_
                try simp only [Act.put, List.setIfInBounds_toArray, List.set_cons_zero, List.set_cons_succ]
                refine wpAnyH_take (i := 7) (v := undef) (take_list rfl) (by kernel_rfl) (by kernel_rfl) (by kernel_rfl) (fun _ _ _ h => h) (Or.inr ⟨by rfl, rfl⟩) (by assumption) ?_
                try simp only [Act.put, List.setIfInBounds_toArray, List.set_cons_zero, List.set_cons_succ]
                refine wpAnyH_take (i := 8) (v := ?vZp0n58) (take_list rfl) (by kernel_rfl) (by kernel_rfl) (by kernel_rfl) (fun _ _ _ h => h) (Or.inl ⟨by rfl, ?hyZp0n58⟩) (by assumption) ?restZp0n58
                case hyZp0n58 => (intro w hSw; (try dsimp only at hSw); go_simp <;> with_reducible rfl)
                try simp only [Act.put, List.setIfInBounds_toArray, List.set_cons_zero, List.set_cons_succ]
                refine wpAnyH_take (i := 9) (v := ?vZp0n59) (take_list rfl) (by kernel_rfl) (by kernel_rfl) (by kernel_rfl) (fun _ _ _ h => h) (Or.inl ⟨by rfl, ?hyZp0n59⟩) (by assumption) ?restZp0n59
                case hyZp0n59 => (intro w hSw; (try dsimp only at hSw); go_simp <;> with_reducible rfl)
                try simp only [Act.put, List.setIfInBounds_toArray, List.set_cons_zero, List.set_cons_succ]
                refine wpAnyH_take (i := 10) (v := undef) (take_list rfl) (by kernel_rfl) (by kernel_rfl) (by kernel_rfl) (fun _ _ _ h => h) (Or.inr ⟨by rfl, rfl⟩) (by assumption) ?_
                try simp only [Act.put, List.setIfInBounds_toArray, List.set_cons_zero, List.set_cons_succ]
                refine wpAnyH_take (i := 11) (v := undef) (take_list rfl) (by kernel_rfl) (by kernel_rfl) (by kernel_rfl) (fun _ _ _ h => h) (Or.inr ⟨by rfl, rfl⟩) (by assumption) ?_
                try simp only [Act.put, List.setIfInBounds_toArray, List.set_cons_zero, List.set_cons_succ]
                refine wpAnyH_take (i := 12) (v := undef) (take_list rfl) (by kernel_rfl) (by kernel_rfl) (by kernel_rfl) (fun _ _ _ h => h) (Or.inr ⟨by rfl, rfl⟩) (by assumption) ?_
                try simp only [Act.put, List.setIfInBounds_toArray, List.set_cons_zero, List.set_cons_succ]
                refine wpAnyH_take (i := 13) (v := undef) (take_list rfl) (by kernel_rfl) (by kernel_rfl) (by kernel_rfl) (fun _ _ _ h => h) (Or.inr ⟨by rfl, rfl⟩) (by assumption) ?_
                try simp only [Act.put, List.setIfInBounds_toArray, List.set_cons_zero, List.set_cons_succ]
                refine wpAnyH_take (i := 14) (v := undef) (take_list rfl) (by kernel_rfl) (by kernel_rfl) (by kernel_rfl) (fun _ _ _ h => h) (Or.inr ⟨by rfl, rfl⟩) (by assumption) ?_
                try simp only [Act.put, List.setIfInBounds_toArray, List.set_cons_zero, List.set_cons_succ]
                refine wpAnyH_take (i := 15) (v := undef) (take_list rfl) (by kernel_rfl) (by kernel_rfl) (by kernel_rfl) (fun _ _ _ h => h) (Or.inr ⟨by rfl, rfl⟩) (by assumption) ?_
                try simp only [Act.put, List.setIfInBounds_toArray, List.set_cons_zero, List.set_cons_succ]
                refine wpAnyH_take (i := 16) (v := undef) (take_list rfl) (by kernel_rfl) (by kernel_rfl) (by kernel_rfl) (fun _ _ _ h => h) (Or.inr ⟨by rfl, rfl⟩) (by assumption) ?_
                try simp only [Act.put, List.setIfInBounds_toArray, List.set_cons_zero, List.set_cons_succ]
                refine wpAnyH_take (i := 17) (v := ?vZp0n517) (take_list rfl) (by kernel_rfl) (by kernel_rfl) (by kernel_rfl) (fun _ _ _ h => h) (Or.inl ⟨by rfl, ?hyZp0n517⟩) (by assumption) ?restZp0n517
                case hyZp0n517 => (intro w hSw; (try dsimp only at hSw); go_simp <;> with_reducible rfl)
                try simp only [Act.put, List.setIfInBounds_toArray, List.set_cons_zero, List.set_cons_succ]
                refine wpAnyH_take (i := 18) (v := ?vZp0n518) (take_list rfl) (by kernel_rfl) (by kernel_rfl) (by kernel_rfl) (fun _ _ _ h => h) (Or.inl ⟨by rfl, ?hyZp0n518⟩) (by assumption) ?restZp0n518
                case hyZp0n518 => (intro w hSw; (try dsimp only at hSw); go_simp <;> with_reducible rfl)
                try simp only [Act.put, List.setIfInBounds_toArray, List.set_cons_zero, List.set_cons_succ]
                refine wpAnyH_take (i := 19) (v := undef) (take_list rfl) (by kernel_rfl) (by kernel_rfl) (by kernel_rfl) (fun _ _ _ h => h) (Or.inr ⟨by rfl, rfl⟩) (by assumption) ?_
                try simp only [Act.put, List.setIfInBounds_toArray, List.set_cons_zero, List.set_cons_succ]
                refine wpAnyH_take (i := 20) (v := undef) (take_list rfl) (by kernel_rfl) (by kernel_rfl) (by kernel_rfl) (fun _ _ _ h => h) (Or.inr ⟨by rfl, rfl⟩) (by assumption) ?_
                try simp only [Act.put, List.setIfInBounds_toArray, List.set_cons_zero, List.set_cons_succ]
                refine wpAnyH_take (i := 21) (v := undef) (take_list rfl) (by kernel_rfl) (by kernel_rfl) (by kernel_rfl) (fun _ _ _ h => h) (Or.inr ⟨by rfl, rfl⟩) (by assumption) ?_
                try simp only [Act.put, List.setIfInBounds_toArray, List.set_cons_zero, List.set_cons_succ]
                refine wpAnyH_take (i := 22) (v := undef) (take_list rfl) (by kernel_rfl) (by kernel_rfl) (by kernel_rfl) (fun _ _ _ h => h) (Or.inr ⟨by rfl, rfl⟩) (by assumption) ?_
                try simp only [Act.put, List.setIfInBounds_toArray, List.set_cons_zero, List.set_cons_succ]
                refine wpAnyH_take (i := 23) (v := undef) (take_list rfl) (by kernel_rfl) (by kernel_rfl) (by kernel_rfl) (fun _ _ _ h => h) (Or.inr ⟨by rfl, rfl⟩) (by assumption) ?_
                try simp only [Act.put, List.setIfInBounds_toArray, List.set_cons_zero, List.set_cons_succ]
                refine wpAnyH_take (i := 24) (v := undef) (take_list rfl) (by kernel_rfl) (by kernel_rfl) (by kernel_rfl) (fun _ _ _ h => h) (Or.inr ⟨by rfl, rfl⟩) (by assumption) ?_
                try simp only [Act.put, List.setIfInBounds_toArray, List.set_cons_zero, List.set_cons_succ]
                refine wpAnyH_take (i := 25) (v := undef) (take_list rfl) (by kernel_rfl) (by kernel_rfl) (by kernel_rfl) (fun _ _ _ h => h) (Or.inr ⟨by rfl, rfl⟩) (by assumption) ?_
                try simp only [Act.put, List.setIfInBounds_toArray, List.set_cons_zero, List.set_cons_succ]
                refine wpAnyH_take (i := 26) (v := undef) (take_list rfl) (by kernel_rfl) (by kernel_rfl) (by kernel_rfl) (fun _ _ _ h => h) (Or.inr ⟨by rfl, rfl⟩) (by assumption) ?_
                try simp only [Act.put, List.setIfInBounds_toArray, List.set_cons_zero, List.set_cons_succ]
                refine wpAnyH_take (i := 27) (v := undef) (take_list rfl) (by kernel_rfl) (by kernel_rfl) (by kernel_rfl) (fun _ _ _ h => h) (Or.inr ⟨by rfl, rfl⟩) (by assumption) ?_
                try simp only [Act.put, List.setIfInBounds_toArray, List.set_cons_zero, List.set_cons_succ]
                refine wpAnyH_take (i := 28) (v := ?vZp0n528) (take_list rfl) (by kernel_rfl) (by kernel_rfl) (by kernel_rfl) (fun _ _ _ h => h) (Or.inl ⟨by rfl, ?hyZp0n528⟩) (by assumption) ?restZp0n528
                case hyZp0n528 => (intro w hSw; (try dsimp only at hSw); go_simp <;> with_reducible rfl)
                try simp only [Act.put, List.setIfInBounds_toArray, List.set_cons_zero, List.set_cons_succ]
                refine wpAnyH_take (i := 29) (v := ?vZp0n529) (take_list rfl) (by kernel_rfl) (by kernel_rfl) (by kernel_rfl) (fun _ _ _ h => h) (Or.inl ⟨by rfl, ?hyZp0n529⟩) (by assumption) ?restZp0n529
                case hyZp0n529 => (intro w hSw; (try dsimp only at hSw); go_simp <;> with_reducible rfl)
                try simp only [Act.put, List.setIfInBounds_toArray, List.set_cons_zero, List.set_cons_succ]
                refine wpAnyH_take (i := 30) (v := undef) (take_list rfl) (by kernel_rfl) (by kernel_rfl) (by kernel_rfl) (fun _ _ _ h => h) (Or.inr ⟨by rfl, rfl⟩) (by assumption) ?_
                try simp only [Act.put, List.setIfInBounds_toArray, List.set_cons_zero, List.set_cons_succ]
                refine wpAnyH_take (i := 31) (v := undef) (take_list rfl) (by kernel_rfl) (by kernel_rfl) (by kernel_rfl) (fun _ _ _ h => h) (Or.inr ⟨by rfl, rfl⟩) (by assumption) ?_
                try simp only [Act.put, List.setIfInBounds_toArray, List.set_cons_zero, List.set_cons_succ]
                refine wpAnyH_take (i := 32) (v := undef) (take_list rfl) (by kernel_rfl) (by kernel_rfl) (by kernel_rfl) (fun _ _ _ h => h) (Or.inr ⟨by rfl, rfl⟩) (by assumption) ?_
                try simp only [Act.put, List.setIfInBounds_toArray, List.set_cons_zero, List.set_cons_succ]
                refine wpAnyH_take (i := 33) (v := undef) (take_list rfl) (by kernel_rfl) (by kernel_rfl) (by kernel_rfl) (fun _ _ _ h => h) (Or.inr ⟨by rfl, rfl⟩) (by assumption) ?_
                try simp only [Act.put, List.setIfInBounds_toArray, List.set_cons_zero, List.set_cons_succ]
                refine wpAnyH_take (i := 34) (v := undef) (take_list rfl) (by kernel_rfl) (by kernel_rfl) (by kernel_rfl) (fun _ _ _ h => h) (Or.inr ⟨by rfl, rfl⟩) (by assumption) ?_
                try simp only [Act.put, List.setIfInBounds_toArray, List.set_cons_zero, List.set_cons_succ]
                refine wpAnyH_take (i := 35) (v := undef) (take_list rfl) (by kernel_rfl) (by kernel_rfl) (by kernel_rfl) (fun _ _ _ h => h) (Or.inr ⟨by rfl, rfl⟩) (by assumption) ?_
                try simp only [Act.put, List.setIfInBounds_toArray, List.set_cons_zero, List.set_cons_succ]
                refine wpAnyH_take (i := 36) (v := undef) (take_list rfl) (by kernel_rfl) (by kernel_rfl) (by kernel_rfl) (fun _ _ _ h => h) (Or.inr ⟨by rfl, rfl⟩) (by assumption) ?_
                try simp only [Act.put, List.setIfInBounds_toArray, List.set_cons_zero, List.set_cons_succ]
                refine wpAnyH_take (i := 37) (v := undef) (take_list rfl) (by kernel_rfl) (by kernel_rfl) (by kernel_rfl) (fun _ _ _ h => h) (Or.inr ⟨by rfl, rfl⟩) (by assumption) ?_
                try simp only [Act.put, List.setIfInBounds_toArray, List.set_cons_zero, List.set_cons_succ]
                refine wpAnyH_take (i := 38) (v := undef) (take_list rfl) (by kernel_rfl) (by kernel_rfl) (by kernel_rfl) (fun _ _ _ h => h) (Or.inr ⟨by rfl, rfl⟩) (by assumption) ?_
                try simp only [Act.put, List.setIfInBounds_toArray, List.set_cons_zero, List.set_cons_succ]
                refine wpAnyH_take (i := 39) (v := ?vZp0n539) (take_list rfl) (by kernel_rfl) (by kernel_rfl) (by kernel_rfl) (fun _ _ _ h => h) (Or.inl ⟨by rfl, ?hyZp0n539⟩) (by assumption) ?restZp0n539
                case hyZp0n539 => (intro w hSw; (try dsimp only at hSw); go_simp <;> with_reducible rfl)
                try simp only [Act.put, List.setIfInBounds_toArray, List.set_cons_zero, List.set_cons_succ]
                refine wpAnyH_done (by kernel_rfl) ?_ _
                go_wp2_with fail
                go_roundw
                case rel => first | exact ⟨k + 1, rfl, hlk, BK.out.trans ((BM.out.trans ((below_drewed _ wm).mono hzm)).mono hzp)⟩ | ((repeat apply Exists.intro); exact ⟨⟨k + 1, rfl, hlk, BK.out.trans ((BM.out.trans ((below_drewed _ wm).mono hzm)).mono hzp)⟩, rfl⟩)
                case measure => (simp only [intOf]; omega)
          · have f1 : decide (k < n2) = false := decide_eq_false hlk
            have f2 : decide ((k : Int) < (n2 : Int)) = false := decide_eq_false (by omega)
            have t0 : wp.cell? ⟨wo.heap.size, 0, none⟩ = some (strV e.b.key) := T7.out.cell 0
            have t1 : wp.cell? ⟨wo.heap.size, 1, none⟩ = some (.int .i64 e.b.gen) := T7.out.cell 1
            have t2 : wp.cell? ⟨wo.heap.size, 2, none⟩ = some (.int .i64 e.b.size) := T7.out.cell 2
            have t3 : wp.cell? ⟨wo.heap.size, 3, none⟩ = some (strV e.b.sum) := T7.out.cell 3
            have t4 : wp.cell? ⟨wo.heap.size, 4, none⟩ = some (.slice (some ⟨e.g, 0, none⟩) (q * 10) (q * 10)) := T7.out.cell 4
            have S8 := Lib.hid (src_below S7.out BK.out)
            have PB8 := Lib.hid (PB7.out.below BK.out PB7.out.size)
            have BWP := Lib.hid (show Below wo.heap.size wo wp from B6.out.trans ((B7.out.trans (BK.out.mono hz7)).mono (Nat.le_of_lt hz6)))
            obtain ⟨ps, hps⟩ : ∃ z, placesOf L e.b = z := ⟨_, rfl⟩
            have HPS := Lib.hid hps
            rw [hps] at PB8
            have HPL2 := Lib.hid (show ps.length = q * 10 by rw [← hps, places_len, HQS.out])
            clear hps
            go_wp2_with fail
            go_loopw [11, 12] (fun tv sv wr => ∃ s th : Nat, sv = .int .i64 (s : Int) ∧ tv = .int .i64 (th : Int) ∧ s ≤ q * 10 ∧ th ≤ 10 ∧ ThereI ps s th ∧ Below wp.heap.size wp wr) (fun _ sv _ => q * 10 - (intOf sv).toNat)
            case atStart => exact ⟨0, 0, rfl, rfl, Nat.zero_le _, Nat.zero_le _, .inl rfl, Below.refl _ _⟩
            case round =>
              obtain ⟨s, th, rfl, rfl, hs, hth, hti, hbs⟩ := hrel
              obtain ⟨wq, rfl⟩ : ∃ wq : World, wq = wr := ⟨_, rfl⟩
              have BS := Lib.hid hbs
              have hzq := hbs.size
              have TI := Lib.hid hti
              have t0 := keepc hbs (World.block_lt_of_cell? _ _ t0) t0
              have t1 := keepc hbs (World.block_lt_of_cell? _ _ t1) t1
              have t2 := keepc hbs (World.block_lt_of_cell? _ _ t2) t2
              have t3 := keepc hbs (World.block_lt_of_cell? _ _ t3) t3
              have t4 := keepc hbs (World.block_lt_of_cell? _ _ t4) t4
              clear hbs hti
              by_cases hls : s < q * 10
              · have f1 : decide (s < q * 10) = true := decide_eq_true hls
                have f2 : decide ((s : Int) < ((q * 10 : Nat) : Int)) = true := decide_eq_true (by omega)
                have f5 : decide ((s : Int) < (q : Int) * 10) = true := decide_eq_true (by omega)
                have f3 : (s : Int) < (q : Int) * 10 := by omega
                have f6 : (s : Int) < ((q * 10 : Nat) : Int) := by omega
                have f4 : (0 : Int) ≤ (s : Int) := by omega
                have p8 : IntKind.i64.wrap ((s : Int) + 1) = ((s + 1 : Nat) : Int) := by rw [IntWalk.i64_in _ (by omega)]; omega
                obtain ⟨j, hj⟩ : ∃ j, s / 10 = j := ⟨_, rfl⟩
                obtain ⟨t, ht⟩ : ∃ t, s % 10 = t := ⟨_, rfl⟩
                have p1 : (s : Int).tmod 10 = ((t : Nat) : Int) := by rw [Int.tmod_eq_emod_of_nonneg (by omega)]; omega
                have HJ := Lib.hid (show s = j * 10 + t ∧ t < 10 ∧ j < q by omega)
                have TI2 := Lib.hid (show t = 0 ∨ th = cntTo ps j t by have h := TI.out; unfold ThereI at h; rw [hj, ht] at h; exact h)
                obtain ⟨⟨x, y⟩, hxy⟩ : ∃ z, firstAt L e.b s = z := ⟨_, rfl⟩
                have hpg : ps[s]? = some (x, y) := by rw [← HPS.out, places_get _ _ (by rw [HQS.out]; exact hls), hxy]
                have hpv := placeVals_get hpg
                have v0 : wq.cell? ⟨e.g, s * 2, none⟩ = some (.int .i64 x) := keepc BS.out PB8.out.size ((PB8.out.cell _).trans (by rw [List.getElem?_toArray]; exact hpv.1))
                have v1 : wq.cell? ⟨e.g, s * 2 + 1, none⟩ = some (.int .i64 y) := keepc BS.out PB8.out.size ((PB8.out.cell _).trans (by rw [List.getElem?_toArray]; exact hpv.2))
                have HXY := Lib.hid (any_holds P e.b s (x := x) (y := y) (by rw [HL.out]; exact hxy))
                have CS := Lib.hid (show cntTo ps j (t + 1) = cntTo ps j t + (if thereP (x, y) then 1 else 0) from cnt_succ (by rw [← HJ.out.1]; exact hpg))
                have hct := cnt_le ps j t
                obtain ⟨ct, hcte⟩ : ∃ z, cntTo ps j t = z := ⟨_, rfl⟩
                rw [hcte] at CS hct TI2
                have ht10 : t < 10 := HJ.out.2.1
                have CT := Lib.hid hcte
                have HT := Lib.hid ht
                have HJJ := Lib.hid hj
                clear hpg hpv hxy hj ht hcte
                go_upto_if 140 with fail
                go_cut [11] from 138 to 140 (fun v wx => v = .int .i64 (ct : Int) ∧ Below wq.heap.size wq wx)
                case first =>
                  by_cases h0 : t = 0
                  · have e5 : ((t : Int) == 0) = true := by simpa using h0
                    have e6 : (t : Int) = 0 := by omega
                    have hc0 : ct = 0 := by rw [← CT.out, h0]; rfl
                    have HC0 := Lib.hid hc0
                    clear hc0 h0
                    go_wp2_with fail
                    go_meet
                    exact ⟨by rw [HC0.out]; rfl, Below.refl _ _⟩
                  · have e5 : ((t : Int) == 0) = false := by rw [beq_eq_false_iff_ne]; omega
                    have e6 : ¬ (t : Int) = 0 := by omega
                    have hth2 : th = ct := (by rcases TI2.out with h | h; exact absurd h h0; exact h)
                    have HTH := Lib.hid hth2
                    clear hth2 h0
                    go_wp2_with fail
                    go_meet
                    exact ⟨by rw [HTH.out], Below.refl _ _⟩
                case rest =>
                  obtain ⟨rfl, hbc⟩ := hcut
                  obtain ⟨wx, rfl⟩ : ∃ wx : World, wx = wc := ⟨_, rfl⟩
                  have t0 := keepc hbc (World.block_lt_of_cell? _ _ t0) t0
                  have t1 := keepc hbc (World.block_lt_of_cell? _ _ t1) t1
                  have t2 := keepc hbc (World.block_lt_of_cell? _ _ t2) t2
                  have t3 := keepc hbc (World.block_lt_of_cell? _ _ t3) t3
                  have t4 := keepc hbc (World.block_lt_of_cell? _ _ t4) t4
                  have v0 := keepc hbc (World.block_lt_of_cell? _ _ v0) v0
                  have v1 := keepc hbc (World.block_lt_of_cell? _ _ v1) v1
                  have BX := Lib.hid (show Below wp.heap.size wp wx from BS.out.trans (hbc.mono hzq))
                  have hzx := BX.out.size
                  clear hbc
                  have HH := Lib.hid (show Calls Try.prog 15 #[.slice A n2 c, .agg #[strV e.b.key, .int .i64 e.b.gen, .int .i64 e.b.size, strV e.b.sum, .slice (some ⟨e.g, 0, none⟩) (q * 10) (q * 10)], .int .i64 (s : Int)] wx fun e w' => e = .returned (.bool (thereP (x, y))) ∧ Below wx.heap.size wx w' from by have h := sHolds A n2 c P e.b.key e.b.gen e.b.size e.b.sum e.g (q * 10) s x y wx HPL.out hn2c (by omega) (src_below S8.out BX.out) hls (by omega) v0 v1; rw [HXY.out] at h; exact h)
                  go_upto_if 144 with (go_at_call 15; (refine (HH.out).mono ?_; rintro e wv ⟨rfl, hb⟩; have BV := Lib.hid (show Below wp.heap.size wp wv from BX.out.trans (hb.mono hzx)); have t0 := keepc hb (World.block_lt_of_cell? _ _ t0) t0; have t1 := keepc hb (World.block_lt_of_cell? _ _ t1) t1; have t2 := keepc hb (World.block_lt_of_cell? _ _ t2) t2; have t3 := keepc hb (World.block_lt_of_cell? _ _ t3) t3; have t4 := keepc hb (World.block_lt_of_cell? _ _ t4) t4; have v0 := keepc hb (World.block_lt_of_cell? _ _ v0) v0; have v1 := keepc hb (World.block_lt_of_cell? _ _ v1) v1; clear hb))
                  have hzv := BV.out.size
                  go_cut [11] from 141 to 162 (fun v wy => v = .int .i64 ((cntTo ps j (t + 1) : Nat) : Int) ∧ Below wv.heap.size wv wy)
                  case first =>
                    cases hth0 : thereP (x, y) with
                    | true =>
                      have hcs := CS.out
                      rw [hth0, if_pos rfl] at hcs
                      have HCS := Lib.hid hcs
                      have p7 : IntKind.i64.wrap ((ct : Int) + 1) = ((ct + 1 : Nat) : Int) := by rw [IntWalk.i64_in _ (by omega)]; omega
                      clear hcs hth0
                      go_wp2_with fail
                      go_meet
                      exact ⟨by rw [HCS.out]; rfl, Below.refl _ _⟩
                    | false =>
                      have hcs := CS.out
                      rw [hth0] at hcs
                      have HCS := Lib.hid (show cntTo ps j (t + 1) = ct from hcs)
                      have hxy0 : x = 0 ∧ y = 1024 := by simpa [thereP] using hth0
                      obtain ⟨hx0, hy0⟩ := hxy0
                      subst hx0 hy0
                      clear hcs hth0
                      go_wp2_with fail
                      go_meet
                      exact ⟨by rw [HCS.out], Below.refl _ _⟩
                  case rest =>
                    obtain ⟨rfl, hbc⟩ := hcut
                    obtain ⟨wy, rfl⟩ : ∃ wy : World, wy = wc := ⟨_, rfl⟩
                    have BY := Lib.hid (show Below wp.heap.size wp wy from BV.out.trans (hbc.mono hzv))
                    clear hbc
                    have hc1 := cnt_le ps j (t + 1)
                    obtain ⟨c1, hce⟩ : ∃ z, cntTo ps j (t + 1) = z := ⟨_, rfl⟩
                    rw [hce] at hc1 ⊢
                    have C1 := Lib.hid hce
                    clear hce
                    by_cases h9 : t = 9
                    · have TN := Lib.hid (show ThereI ps (s + 1) c1 from .inl (by have := HJ.out.1; omega))
                      have hc8 : 8 ≤ c1 := by
                        have h := HPO.out
                        rw [HPS.out] at h
                        have h2 := ((poor_ge HPL2.out 8).1 h).2 j HJ.out.2.2
                        have h3 : cntTo ps j 10 = c1 := by have h := C1.out; rw [h9] at h; exact h
                        omega
                      have e5 : ((t : Int) == 9) = true := by simpa using (by omega : (t : Int) = 9)
                      have e6 : (t : Int) = 9 := by omega
                      have e7 : decide (c1 < 8) = false := decide_eq_false (by omega)
                      have e8 : decide ((c1 : Int) < 8) = false := decide_eq_false (by omega)
                      clear h9
                      go_wp2_with fail
                      go_roundw
                      case rel => first | exact ⟨s + 1, c1, rfl, rfl, by omega, by omega, TN.out, BY.out⟩ | ((repeat apply Exists.intro); exact ⟨⟨s + 1, c1, rfl, rfl, by omega, by omega, TN.out, BY.out⟩, rfl⟩)
                      case measure => (simp only [intOf]; omega)
                    · have TN := Lib.hid (show ThereI ps (s + 1) c1 from .inr (by have h := HJ.out; rw [show (s + 1) / 10 = j by omega, show (s + 1) % 10 = t + 1 by omega]; exact C1.out.symm))
                      have e5 : ((t : Int) == 9) = false := by rw [beq_eq_false_iff_ne]; omega
                      have e6 : ¬ (t : Int) = 9 := by omega
                      clear h9
                      go_wp2_with fail
                      go_roundw
                      case rel => first | exact ⟨s + 1, c1, rfl, rfl, by omega, by omega, TN.out, BY.out⟩ | ((repeat apply Exists.intro); exact ⟨⟨s + 1, c1, rfl, rfl, by omega, by omega, TN.out, BY.out⟩, rfl⟩)
                      case measure => (simp only [intOf]; omega)
              · have f1 : decide (s < q * 10) = false := decide_eq_false hls
                have f2 : decide ((s : Int) < ((q * 10 : Nat) : Int)) = false := decide_eq_false (by omega)
                have f5 : decide ((s : Int) < (q : Int) * 10) = false := decide_eq_false (by omega)
                go_wp2_with fail
                go_roundw
                case rel => first | exact ⟨i + 1, rfl, hlt, BL.out.trans ((BWP.out.trans (BS.out.mono (by have := BWP.out.size; omega))).mono hzo)⟩ | ((repeat apply Exists.intro); exact ⟨⟨i + 1, rfl, hlt, BL.out.trans ((BWP.out.trans (BS.out.mono (by have := BWP.out.size; omega))).mono hzo)⟩, rfl⟩)
                case measure => (simp only [intOf]; omega)
    · have e1 : decide (i < ne) = false := decide_eq_false hlt
      have e2 : decide ((i : Int) < (ne : Int)) = false := decide_eq_false (by omega)
      go_wp2_with (go_at_call 12; (refine (sAwake _).mono ?_; rintro e w8 ⟨rfl, hb8⟩; have B8 := Lib.hid hb8; clear hb8))
      go_ret
      exact ⟨rfl, R3.out.base.trans ((BL.out.trans (B8.out.mono hzo)).mono hw3)⟩
end Go.Proofs.Ythceidacmeadkaa
