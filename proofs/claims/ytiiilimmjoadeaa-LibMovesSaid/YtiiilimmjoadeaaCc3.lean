/- The law CartKeeps returns true on values. No condition beyond those that each theorem states. -/
import Derived.Test.YtiiilimmjoadeaaCe1
namespace Go.Proofs.Ytiiilimmjoadeaa
open Go.RowKit

/-- What is kept so far: a cartridge with good records, and their strings. -/
def KeptAt (w wr : World) (p : Nat) (v : Value) (M : Recs) : Prop :=
  Priv w wr p M 100 false ∧ (∀ r ∈ M, r.2 = false) ∧ ∃ g cap, v = .slice (some ⟨g, 0, none⟩) M.length cap ∧ wr.ownsRow w.heap.size 9 1 v M.length (strs M)

theorem bool_info : (Try.prog.info? 4).map (fun i => (i.zero, i.size, i.bytes)) = some (some (.bool false), 1, 1) := by kernel_rfl
/-- The marks of records as cells. -/
def rotVals (M : Recs) : List Value := M.map fun r => .bool r.2
theorem rotVals_length (M : Recs) : (rotVals M).length = M.length := by simp [rotVals]
theorem rotVals_get {M : Recs} {i : Nat} {r : List UInt8 × Bool} (h : M[i]? = some r) : (rotVals M)[i]? = some (.bool r.2) := by simp [rotVals, h]
theorem strs_get {M : Recs} {i : Nat} {r : List UInt8 × Bool} (h : M[i]? = some r) : (strs M)[i]? = some (.string ⟨r.1.toArray⟩) := by simp [strs, h]
theorem strs_set {M : Recs} {i : Nat} {l : List UInt8} {b b' : Bool} (h : M[i]? = some (l, b)) : strs (M.set i (l, b')) = strs M := by
  unfold strs
  rw [List.map_set]
  apply List.ext_getElem?
  intro j
  rw [List.getElem?_set]
  split
  · rename_i e
    subst e
    have h1 := (List.getElem?_eq_some_iff.1 h).1
    rw [List.getElem?_map, h, if_pos (by simpa using h1)]
    rfl
  · rfl
theorem rotVals_set (M : Recs) (i : Nat) (l : List UInt8) (b : Bool) : rotVals (M.set i (l, b)) = (rotVals M).set i (.bool b) := by simp [rotVals, List.map_set]
theorem rotVals_good {M : Recs} (h : ∀ r ∈ M, r.2 = false) : rotVals M = List.replicate M.length (.bool false) := by
  unfold rotVals
  rw [List.eq_replicate_iff]
  refine ⟨by simp, fun b hb => ?_⟩
  obtain ⟨r, hr, rfl⟩ := List.mem_map.1 hb
  rw [h r hr]
theorem RowAt.store {w : World} {g : Nat} {t : TypeId} {vals : List Value} (h : RowAt w g t vals) (i : Nat) (u : Value) : RowAt (w.setCell ⟨g, i, none⟩ u) g t (vals.set i u) := by
  obtain ⟨cs, h, ht⟩ := h
  refine ⟨cs.setIfInBounds i u, ?_, ?_⟩
  · simp [World.setCell, Array.getElem?_modify, h]
  · rw [Array.toList_setIfInBounds, List.length_set, List.take_set, ht]
theorem RowAt.apart {w : World} {g : Nat} {t : TypeId} {vals : List Value} (h : RowAt w g t vals) {p : Addr} (hp : g ≠ p.block) (u : Value) : RowAt (w.setCell p u) g t vals := h.of_eq (Below.heap_setCell w p u g hp)
theorem RowAt.made (w : World) (t : TypeId) (cs : Array Value) : RowAt (w.alloc (.cells cs t)) w.heap.size t cs.toList := ⟨cs, heap_alloc_new w _, List.take_length⟩
theorem RowAt.below {w w' : World} {g : Nat} {t : TypeId} {vals : List Value} (h : RowAt w g t vals) (hb : Below w.heap.size w w') : RowAt w' g t vals := h.of_eq (hb.block g h.size)

theorem RowAt.ne_row {w : World} {g g' : Nat} {t t' : TypeId} {vals vals' : List Value} (h : RowAt w g t vals) (h' : RowAt w g' t' vals') (hne : t ≠ t') : g ≠ g' := by
  obtain ⟨cs, h', _⟩ := h'
  exact h.ne h' hne
/-- The cartridge, the texts that are kept, and the marks. -/
def Kept2 (w wr : World) (p g gb : Nat) (M : Recs) : Prop := Priv w wr p M 100 false ∧ RowAt wr g 9 (strs M) ∧ RowAt wr gb 4 (rotVals M)

theorem set_self {M : Recs} {a : Nat} {x : List UInt8 × Bool} (h : M[a]? = some x) : M.set a x = M := by
  apply List.ext_getElem?
  intro j
  rw [List.getElem?_set]
  split
  · rename_i e
    subst e
    rw [if_pos (List.getElem?_eq_some_iff.1 h).1, h]
  · rfl
theorem kept2_mark {w wr : World} {p g gb a : Nat} {M : Recs} {l : List UInt8} {r : Bool} (h1 : Priv w wr p (M.set a (l, true)) 100 false) (h2 : RowAt wr g 9 (strs M)) (h3 : RowAt wr gb 4 (rotVals M)) (ha : M[a]? = some (l, r)) (hg : gb ≠ g) (hb : w.heap.size ≤ gb) :
    Kept2 w (wr.setCell ⟨gb, a, none⟩ (.bool true)) p g gb (M.set a (l, true)) := by
  obtain ⟨cs, hcs, _⟩ := id h3
  refine ⟨h1.other (S := (· = gb)) ((Chg.refl (· = gb) _).store (p := ⟨gb, a, none⟩) (.inl rfl) _) (fun k hk => ?_), ?_, ?_⟩
  · subst hk
    exact ⟨hb, _, cs, hcs, by decide, by decide, by decide⟩
  · rw [strs_set ha]
    exact h2.apart (Ne.symm hg) _
  · rw [rotVals_set]
    exact h3.store a _

set_option maxRecDepth 100000 in
set_option maxHeartbeats 8000000 in
theorem cartKeeps_walk (A : Option Addr) (n c : Nat) (F : Nat → Option Addr × Nat × Nat × List UInt8) (B : Option Addr) (m d : Nat) (lb : List UInt8) (w : World) (hF : RowsIn w A n F) (hb : BytesIn w B m lb) (hn : n ≤ c) (hc : c ≤ maxLen) (hmd : m ≤ d) (hd : d ≤ maxLen) :
    Calls Try.prog 5 #[.slice A n c, .slice B m d] w fun e w' => e = .returned (.bool true) ∧ Below w.heap.size w w' := by
  have HF := Lib.hid hF
  have HB := Lib.hid hb
  have hm2 : m ≤ 9223372036854775807 := by simp only [maxLen] at hd; omega
  have hn2 : n ≤ 9223372036854775807 := by simp only [maxLen] at hc; omega
  obtain ⟨i0, hi0, hz0, hz1, hz2⟩ := info_parts string_info
  obtain ⟨b0, hb0, hb1, hb2, hb3⟩ := info_parts bool_info
  clear hF hb hc hd
  go_enter Try.func5, Try.ntmps5
  go_wp2_with fail
  refine (pNew 100 _).mono ?_
  rintro e w1 ⟨p, rfl, h1, _⟩
  have P1 := Lib.hid (show Priv w w1 p [] 100 false from h1)
  clear h1
  go_upto_block 0 with fail
  go_cut [6] (fun s6 wx => ∃ M : Recs, M.length ≤ 60 ∧ KeptAt w wx p s6 M)
  case first =>
    go_wp2_with fail
    go_loopw [6, 7] (fun v i wr => ∃ (k : Nat) (M : Recs), k ≤ n ∧ k ≤ 60 ∧ M.length ≤ k ∧ i = .int .i64 k ∧ KeptAt w wr p v M) (fun _ i _ => 60 - (intOf i).toNat)
    case atStart => exact ⟨0, [], by omega, by omega, by simp, rfl, P1.out.alloc _, by simp, _, 0, rfl, own_made _ _ 1 rfl P1.out.base.size⟩
    case round =>
      obtain ⟨k, M, hk, hk60, hM, rfl, hK, hgood, g, cap, rfl, hown⟩ := hrel
      by_cases hlt : k < n
      · by_cases hlt60 : k < 60
        · obtain ⟨b, off, rfl, hbw, hF⟩ := HF.out.resolve_left (by omega)
          obtain ⟨hcell, hrn, hrc, hrb, hrA, _⟩ := hF k hlt
          have hbl := hK.base
          have hbw' : b < wr.heap.size := Nat.lt_of_lt_of_le hbw hbl.size
          have hcell' : wr.cell? ⟨b, off + k, none⟩ = some (.slice (F k).1 (F k).2.1 (F k).2.2.1) := (hbl.cell (p := ⟨b, off + k, none⟩) hbw).trans hcell
          have PK := Lib.hid hK
          have RB := Lib.hid hrb
          have RA := Lib.hid hrA
          have OW := Lib.hid hown
          have HG := Lib.hid hgood
          have C0 := Lib.hid hcell
          clear hK hrb hrA hown hgood hcell hbl hF
          generalize (F k).1 = A at *
          generalize (F k).2.1 = q at *
          generalize (F k).2.2.1 = qc at *
          generalize (F k).2.2.2 = l at *
          have d1 : decide (k < n) = true := by simpa using hlt
          have d2 : decide (k < 60) = true := by simpa using hlt60
          go_wp2_with fail
          refine (pAppend w p M 100 false A q qc l _ PK.out (RB.out.below PK.out.base)).mono ?_
          rintro e w3 ⟨rfl, h1, k3⟩
          have hl := RB.out.1
          have hl2 := hl
          by_cases hbad : l.length = 0 ∨ 256 < l.length
          · rw [appendM_bad hbad] at h1 ⊢
            have P3 := Lib.hid h1
            have OW3 := Lib.hid (k3.own OW.out)
            have hcell3 := (P3.out.base.cell (p := ⟨b, off + k, none⟩) hbw).trans C0.out
            have hbw3 : b < w3.heap.size := Nat.lt_of_lt_of_le hbw P3.out.base.size
            clear h1 k3 hcell' hbw'
            rw [hl] at hbad
            clear hl hl2
            rcases hbad with hq | hq
            · have d3 : decide (1 ≤ q) = false := by simp; omega
              go_wp2_with fail
              go_roundw
              case rel => exact ⟨k + 1, M, hlt, hlt60, by omega, by go_num, P3.out, HG.out, _, _, rfl, OW3.out⟩
              case measure => simp [intOf]; omega
            · have d3 : decide (1 ≤ q) = true := by simp; omega
              have d4 : decide (q ≤ 256) = false := by simp; omega
              go_wp2_with fail
              go_roundw
              case rel => exact ⟨k + 1, M, hlt, hlt60, by omega, by go_num, P3.out, HG.out, _, _, rfl, OW3.out⟩
              case measure => simp [intOf]; omega
          · rw [appendM_ok (by omega) (by omega) (show (M.length : Int) < 100 by omega)] at h1 ⊢
            have P3 := Lib.hid (show Priv w w3 p (M ++ [(l, false)]) 100 false from h1)
            have OW3 := Lib.hid (k3.own OW.out)
            have hcell3 := (P3.out.base.cell (p := ⟨b, off + k, none⟩) hbw).trans C0.out
            have hbw3 : b < w3.heap.size := Nat.lt_of_lt_of_le hbw P3.out.base.size
            obtain ⟨b2, off2, rfl⟩ := RA.out.resolve_left (by omega)
            have hcv := bytes_string (c := qc) (RB.out.below P3.out.base) (.inr ⟨_, _, rfl⟩)
            clear h1 k3 hcell' hbw' hl hl2
            have G4 : ∀ r ∈ M ++ [(l, false)], r.2 = false := by
              intro r hr
              rcases List.mem_append.1 hr with hr | hr
              · exact HG.out r hr
              · rw [List.mem_singleton.1 hr]
            have HG4 := Lib.hid G4
            clear G4
            go_wp2_with (
              at_builtin
              refine wpList_append_form _ rfl (.tmp 53) (.tmp 59) 35 rfl w.heap.size 9 i0 _ 1 16 Try.underlying35 hi0 hz0 hz1 hz2 rfl (by omega) _ M.length (strs M) rfl (by exact own_kept OW3.out (Below.heap_alloc _ _ _ (own_lt OW3.out))) (some ⟨w3.heap.size, 0, none⟩) 1 1 [.string ⟨l.toArray⟩] rfl rfl (fun e => by cases e) (by exact src_new _ _ _ _) (by intro u hu; simp only [List.mem_cons, List.not_mem_nil, or_false] at hu; subst hu; rfl) (by omega) (by simp only [maxLen]; omega) (by omega) (by exact Nat.le_trans P3.out.base.size (by simp)) ?_
              intro g2 cap2 w4 hown2 hgr2 hat2 hlt2
              have HO2 := Lib.hid hown2
              have P4 := Lib.hid (kept_push P3.out OW3.out hgr2)
              clear hown2 hgr2 hat2)
            go_roundw
            case rel => exact ⟨k + 1, M ++ [(l, false)], hlt, hlt60, by simp; omega, by go_num, P4.out, HG4.out, _, _, by rw [List.length_append]; rfl, by rw [strs_snoc, List.length_append]; exact HO2.out⟩
            case measure => simp [intOf]; omega
        · have PK := Lib.hid hK
          have OW := Lib.hid hown
          have HG := Lib.hid hgood
          clear hK hown hgood
          have d1 : decide (k < n) = true := by simpa using hlt
          have d2 : decide (k < 60) = false := by simpa using hlt60
          go_wp2_with fail
          go_meet
          exact ⟨M, by omega, PK.out, HG.out, g, cap, rfl, OW.out⟩
      · have PK := Lib.hid hK
        have OW := Lib.hid hown
        have HG := Lib.hid hgood
        clear hK hown hgood
        have d1 : decide (k < n) = false := by simpa using hlt
        go_wp2_with fail
        go_meet
        exact ⟨M, by omega, PK.out, HG.out, g, cap, rfl, OW.out⟩
  case rest =>
    obtain ⟨M, hM, hK, hgood, g, cap, rfl, hown⟩ := hcut
    have hgl := own_lt hown
    have KR := Lib.hid (RowAt.of_own hown)
    have P2 := Lib.hid hK
    have hbz := hK.base.size
    have hgw := (hown.lt g rfl).1
    have HG := Lib.hid hgood
    clear hK hown hgood
    have hmk : ∀ W : World, (Instr.makeSlice 36 (.int .i64 (M.length : Int)) (.int .i64 (M.length : Int))).run Try.prog W = .ok (.slice (some ⟨W.heap.size, 0, none⟩) M.length M.length) (W.alloc (.cells (madeCells #[.bool false] M.length) 4)) := fun W => by
      have h := run_makeSlice (P := Try.prog) W 36 4 b0 (.bool false) Try.underlying36 hb0 hb1 .i64 .i64 (M.length : Int) (M.length : Int) (by omega) (by omega) (by rw [hb2, Int.toNat_natCast]; omega) (by rw [hb3]; omega) (by omega)
      rw [hb2, Int.toNat_natCast, Nat.mul_one] at h
      exact h
    have hmv : (madeCells #[.bool false] M.length).toList = rotVals M := by rw [toList_madeCells_one, rotVals_good HG.out]
    go_upto_block 2 with fail
    have K20 : Kept2 w (wc.alloc (.cells (madeCells #[.bool false] M.length) 4)) p g wc.heap.size M :=
      ⟨P2.out.alloc _, KR.out.below ((Below.refl _ _).alloc (Nat.le_refl _) _), by rw [← hmv]; exact RowAt.made _ _ _⟩
    have HK20 := Lib.hid K20
    clear K20 hmk hmv
    generalize wc.heap.size = gb at *
    go_cut [10] (fun s10 wx => ∃ M' : Recs, M'.length = M.length ∧ s10 = .slice (some ⟨gb, 0, none⟩) M.length M.length ∧ Kept2 w wx p g gb M')
    case first =>
      go_wp2_with fail
      go_loopw [11] (fun i wr => ∃ (k : Nat) (M' : Recs), k ≤ m ∧ k ≤ 60 ∧ M'.length = M.length ∧ i = .int .i64 k ∧ Kept2 w wr p g gb M') (fun i _ => 60 - (intOf i).toNat)
      case atStart => exact ⟨0, M, by omega, by omega, rfl, rfl, HK20.out⟩
      case round =>
        obtain ⟨k, M', hk, hk60, hM', rfl, hK⟩ := hrel
        have HK := Lib.hid hK
        have HM' := Lib.hid hM'
        clear hK hM'
        by_cases hlt : k < m
        · by_cases hlt60 : k < 60
          · have d1 : decide (k < m) = true := by simpa using hlt
            have d2 : decide (k < 60) = true := by simpa using hlt60
            by_cases hpos : 0 < M.length
            · have d3 : decide (0 < M.length) = true := by simpa using hpos
              have hkl : k < lb.length := by have := HB.out.1; omega
              obtain ⟨b, off, rfl, hbw, hcs⟩ := HB.out.2.resolve_left (by omega)
              have hc0 := hcs k lb[k] (List.getElem?_eq_getElem hkl)
              have hbl := HK.out.1.base
              have hc1 : wr.cell? ⟨b, off + k, none⟩ = some (.int .u8 ((lb[k].toNat : Nat) : Int)) := (hbl.cell (p := ⟨b, off + k, none⟩) hbw).trans hc0
              have hx256 : lb[k].toNat < 256 := lb[k].toNat_lt
              generalize lb[k].toNat = x at *
              have HC0 := Lib.hid hc0
              clear hc0 hbl hcs
              go_upto_region 18 with fail
              have hrem : ((x : Nat) : Int) % ((M.length : Nat) : Int) = ((x % M.length : Nat) : Int) := by simp
              have ha : x % M.length < M.length := Nat.mod_lt _ hpos
              simp only [hrem]
              clear hrem
              generalize x % M.length = a at *
              have hal : a < M'.length := by have := HM'.out; omega
              obtain ⟨l, r, har⟩ : ∃ l r, M'[a]? = some (l, r) := ⟨_, _, List.getElem?_eq_getElem hal⟩
              have HA := Lib.hid har
              have kb : wr.cell? ⟨gb, a, none⟩ = some (.bool r) := HK.out.2.2.cell (rotVals_get har)
              have hgg : gb ≠ g := HK.out.2.2.ne_row HK.out.2.1 (by decide)
              clear har
              cases r with
              | false =>
                have e1 : rotM M' false ((a : Nat) : Int) = (true, M'.set a (l, true)) := by
                  unfold rotM
                  rw [if_neg (by simp), if_neg (by omega), Int.toNat_natCast, HA.out]
                  rfl
                have E1 := Lib.hid e1
                clear e1
                go_region_held3 (fun w' => w'.cell? ⟨gb, a, none⟩ = some (.bool false)) (first | go_keep | exact K1)
                  ((go_at_call 18; refine (pRot w p M' 100 false a _ (by exact HK.out.1.below ⟨rfl, rfl, rfl, Nat.le_refl _, fun _ _ => rfl⟩)).mono ?_; rintro e w3 ⟨rfl, h1, k3⟩; rw [E1.out] at h1 ⊢; have R3 := Lib.hid (show RowAt w3 gb 4 (rotVals M') from k3.row (by exact HK.out.2.2.of_eq rfl) (by decide) (by decide)); have S3 := Lib.hid (show RowAt w3 g 9 (strs M') from k3.row (by exact HK.out.2.1.of_eq rfl) (by decide) (by decide)); have P3 := Lib.hid (show Priv w w3 p (M'.set a (l, true)) 100 false from h1); clear h1 k3; have K1 : w3.cell? ⟨gb, a, none⟩ = some (.bool false) := R3.out.cell (rotVals_get HA.out); have f1 : w3.frozen? ⟨gb, a, none⟩ = false := R3.out.free a))
                all_goals
                  have f2 : w3.frozen? ⟨gb, a, none⟩ = false := R3.out.free a
                  have K2 : w3.cell? ⟨gb, a, none⟩ = some (.bool false) := R3.out.cell (rotVals_get HA.out)
                  go_wp2_with fail
                  go_roundw
                  case rel =>
                    refine ⟨k + 1, M'.set a (l, true), hlt, hlt60, by rw [List.length_set]; exact HM'.out, by go_num, ?_⟩
                    exact kept2_mark (by simpa using P3.out) S3.out R3.out HA.out hgg hbz
                  case measure => simp [intOf]; omega
              | true =>
                have e1 : rotM M' false ((a : Nat) : Int) = (false, M') := by
                  unfold rotM
                  rw [if_neg (by simp), if_neg (by omega), Int.toNat_natCast, HA.out]
                  rfl
                have E1 := Lib.hid e1
                clear e1
                go_region_held3 (fun w' => w'.cell? ⟨gb, a, none⟩ = some (.bool true)) (first | go_keep | exact K1)
                  ((go_at_call 18; refine (pRot w p M' 100 false a _ (by exact HK.out.1.below ⟨rfl, rfl, rfl, Nat.le_refl _, fun _ _ => rfl⟩)).mono ?_; rintro e w3 ⟨rfl, h1, k3⟩; rw [E1.out] at h1 ⊢; have R3 := Lib.hid (show RowAt w3 gb 4 (rotVals M') from k3.row (by exact HK.out.2.2.of_eq rfl) (by decide) (by decide)); have S3 := Lib.hid (show RowAt w3 g 9 (strs M') from k3.row (by exact HK.out.2.1.of_eq rfl) (by decide) (by decide)); have P3 := Lib.hid (show Priv w w3 p M' 100 false from h1); clear h1 k3; have K1 : w3.cell? ⟨gb, a, none⟩ = some (.bool true) := R3.out.cell (rotVals_get HA.out); have f1 : w3.frozen? ⟨gb, a, none⟩ = false := R3.out.free a))
                all_goals
                  have f2 : w3.frozen? ⟨gb, a, none⟩ = false := R3.out.free a
                  have K2 : w3.cell? ⟨gb, a, none⟩ = some (.bool true) := R3.out.cell (rotVals_get HA.out)
                  go_wp2_with fail
                  go_roundw
                  case rel =>
                    refine ⟨k + 1, M'.set a (l, true), hlt, hlt60, by rw [List.length_set]; exact HM'.out, by go_num, ?_⟩
                    exact kept2_mark (by rw [set_self HA.out]; exact P3.out) S3.out R3.out HA.out hgg hbz
                  case measure => simp [intOf]; omega
            · have d3 : decide (0 < M.length) = false := by simpa using hpos
              go_wp2_with fail
              go_meet
              exact ⟨M', HM'.out, rfl, HK.out⟩
          · have d1 : decide (k < m) = true := by simpa using hlt
            have d2 : decide (k < 60) = false := by simpa using hlt60
            go_wp2_with fail
            go_meet
            exact ⟨M', HM'.out, rfl, HK.out⟩
        · have d1 : decide (k < m) = false := by simpa using hlt
          go_wp2_with fail
          go_meet
          exact ⟨M', HM'.out, rfl, HK.out⟩
    case rest =>
      obtain ⟨M', hM', rfl, hK⟩ := hcut
      have HK := Lib.hid hK
      have HM' := Lib.hid hM'
      clear hK hM'
      go_wp2_with fail
      go_loopw [13] (fun i wr => ∃ (k : Nat), k ≤ M.length ∧ i = .int .i64 k ∧ Kept2 w wr p g gb M') (fun i _ => M.length - (intOf i).toNat)
      case atStart => exact ⟨0, by omega, rfl, HK.out⟩
      case round =>
        obtain ⟨k, hk, rfl, hK⟩ := hrel
        have HR := Lib.hid hK
        clear hK
        by_cases hlt : k < M.length
        · have d1 : decide (k < M.length) = true := by simpa using hlt
          obtain ⟨l, r, har⟩ : ∃ l r, M'[k]? = some (l, r) := ⟨_, _, List.getElem?_eq_getElem (by have := HM'.out; omega)⟩
          have HA := Lib.hid har
          have hrm : readM M' false (k : Int) = if r then ([], 10) else (l, 0) := by
            unfold readM
            rw [if_neg (by simp), if_neg (by omega), Int.toNat_natCast, har]
          have RM := Lib.hid hrm
          clear har hrm
          go_wp2_with fail
          refine (pRead w p M' 100 false k _ HR.out.1).mono ?_
          rintro e w3 ⟨v, rfl, ho, h1, k3⟩
          rw [RM.out] at ho ⊢
          have P3 := Lib.hid h1
          have S3 := Lib.hid (HR.out.2.1.below k3)
          have R3 := Lib.hid (HR.out.2.2.below k3)
          clear h1 k3
          have hbk : w3.cell? ⟨gb, k, none⟩ = some (.bool r) := R3.out.cell (rotVals_get HA.out)
          have hsk : w3.cell? ⟨g, k, none⟩ = some (.string ⟨l.toArray⟩) := S3.out.cell (strs_get HA.out)
          cases r with
          | true =>
            obtain ⟨A5, c5, rfl, -, -⟩ := ho.bytesIn
            clear ho
            go_wp2_with fail
            go_quiet (fail)
            go_wp2_with fail
            go_roundw
            case rel => exact ⟨k + 1, hlt, by go_num, P3.out.drewN _, S3.out.of_eq rfl, R3.out.of_eq rfl⟩
            case measure => simp [intOf]; omega
          | false =>
            replace ho : OutB wr w3 v l := ho
            simp only [Bool.false_eq_true, if_false]
            have hcv := fun nn => (ho.keeps (Keeps.of_below (below_drewN (Below.refl _ _) nn))).string
            rcases ho with ⟨rfl, rfl⟩ | ⟨g5, c5, rfl, -⟩
            all_goals
              go_wp2_with fail
              go_quiet (fail)
              go_wp2_with fail
              go_roundw
              case rel => exact ⟨k + 1, hlt, by go_num, P3.out.drewN _, S3.out.of_eq rfl, R3.out.of_eq rfl⟩
              case measure => simp [intOf]; omega
        · have d1 : decide (k < M.length) = false := by simpa using hlt
          go_wp2_with fail
          refine (awake07 _).mono ?_
          rintro e w8 ⟨rfl, hb8⟩
          have P8 := Lib.hid (HR.out.1.below hb8)
          clear hb8
          go_wp2_with fail
          refine (pLen w p M' 100 false _ P8.out).mono ?_
          rintro e w11 ⟨rfl, rfl⟩
          rw [HM'.out]
          go_wp2_with fail
          refine (pRoom w p M' 100 false _ P8.out).mono ?_
          rintro e w11 ⟨rfl, nn, rfl⟩
          rw [HM'.out]
          simp only [Bool.false_eq_true, if_false]
          go_wp2_with fail
          go_ret
          exact ⟨rfl, below_drewN P8.out.base nn⟩
end Go.Proofs.Ytiiilimmjoadeaa
