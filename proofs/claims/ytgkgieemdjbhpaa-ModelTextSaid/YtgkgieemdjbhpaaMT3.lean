/- Texts behind one another are read one by one; unlike models have unlike texts; lists of texts that may differ; a model made by acts. No condition beyond those that each theorem states. -/
import Derived.Test.YtgkgieemdjbhpaaMT2
import Derived.Test.YtgkgieemdjbhpaaMC1
import Derived.Test.YtgkgieemdjbhpaaO6
import Derived.Deep.RegionHeld3
import Derived.Deep.QuietTactic
import Derived.BigQuiet
namespace Go.Proofs.Ytgkgieemdjbhpaa
open Go.RowKit Go.Maps

theorem u8_nat {x y : Nat} (hx : x < 256) (hy : y < 256) (h : UInt8.ofNat x = UInt8.ofNat y) : x = y := by
  have := congrArg UInt8.toNat h
  rwa [UInt8.toNat_ofNat', UInt8.toNat_ofNat', Nat.mod_eq_of_lt hx, Nat.mod_eq_of_lt hy] at this
theorem numW_inj {M N : Nat} {r r' : List UInt8} (hM : M < 16384) (hN : N < 16384) (h : numW M ++ r = numW N ++ r') : M = N ∧ r = r' := by
  unfold numW at h
  by_cases h1 : M < 128
  · by_cases h2 : N < 128
    · rw [if_pos h1, if_pos h2] at h
      injection h with ha hb
      exact ⟨u8_nat (by omega) (by omega) ha, hb⟩
    · rw [if_pos h1, if_neg h2] at h
      injection h with ha hb
      have := u8_nat (by omega) (by omega) ha
      omega
  · by_cases h2 : N < 128
    · rw [if_neg h1, if_pos h2] at h
      injection h with ha hb
      have := u8_nat (by omega) (by omega) ha
      omega
    · rw [if_neg h1, if_neg h2] at h
      injection h with ha hb
      injection hb with hb hc
      have := u8_nat (by omega) (by omega) ha
      have := u8_nat (by omega) (by omega) hb
      exact ⟨by omega, hc⟩
theorem textW_inj {s s' r r' : List UInt8} (hs : s.length < 16384) (hs' : s'.length < 16384) (h : textW s ++ r = textW s' ++ r') : s = s' ∧ r = r' := by
  unfold textW at h
  rw [List.append_assoc, List.append_assoc] at h
  obtain ⟨h1, h2⟩ := numW_inj hs hs' h
  exact List.append_inj h2 h1
theorem nextR_num {N : Nat} (rest : List UInt8) (h : N < 16384) : nextR (numW N ++ rest) = some (N, true, rest) := by
  unfold nextR numW
  by_cases h1 : N < 128
  · rw [if_pos h1]
    have e : (UInt8.ofNat N).toNat = N := by rw [UInt8.toNat_ofNat', Nat.mod_eq_of_lt (by omega)]
    simp only [List.cons_append, List.nil_append, goR, e, if_pos h1]
    simp
    omega
  · rw [if_neg h1]
    have e1 : (UInt8.ofNat (N % 128 + 128)).toNat = N % 128 + 128 := by rw [UInt8.toNat_ofNat', Nat.mod_eq_of_lt (by omega)]
    have e2 : (UInt8.ofNat (N / 128)).toNat = N / 128 := by rw [UInt8.toNat_ofNat', Nat.mod_eq_of_lt (by omega)]
    simp only [List.cons_append, List.nil_append, goR, e1, e2, if_neg (show ¬ N % 128 + 128 < 128 by omega), if_pos (show N / 128 < 128 by omega)]
    simp
    omega
theorem textR_text {most : Nat} {s : List UInt8} (rest : List UInt8) (h : s.length < 16384) (hm : s.length ≤ most) : textR most (textW s ++ rest) false = (s, rest, false) := by
  unfold textW
  rw [List.append_assoc, textR_ok (getR_ok (nextR_num _ h) hm) (by rw [List.length_append]; omega)]
  simp
/-- The model that is made of the keys one by one. -/
def buildM (S : MV) (ks : List (List UInt8)) : MV := ks.map fun k => (k, getM S k)
theorem buildM_keys (S : MV) (ks : List (List UInt8)) : (buildM S ks).map Prod.fst = ks := by simp [buildM, Function.comp_def]
theorem buildM_snoc (S : MV) (ks : List (List UInt8)) (k : List UInt8) : buildM S (ks ++ [k]) = buildM S ks ++ [(k, getM S k)] := by simp [buildM]
theorem getM_at2 {S : MV} (hS : (S.map Prod.fst).Nodup) {k d : List UInt8} (h : (k, d) ∈ S) : getM S k = d := by
  induction S with
  | nil => cases h
  | cons x S ih =>
    rw [List.map_cons, List.nodup_cons] at hS
    unfold getM
    rw [List.find?_cons]
    by_cases hx : x.1 = k
    · rw [show (x.1 == k) = true by simpa using hx]
      rcases List.mem_cons.1 h with rfl | h
      · rfl
      · exact absurd (List.mem_map_of_mem (f := Prod.fst) h) (by rw [← hx] at *; exact hS.1)
    · rw [show (x.1 == k) = false by simpa using hx]
      rcases List.mem_cons.1 h with rfl | h
      · exact absurd rfl hx
      · exact ih hS.2 h
theorem sortM_nodup {S : MV} (h : (S.map Prod.fst).Nodup) : (sortM S).Nodup := ((List.mergeSort_perm _ _).nodup_iff).2 h
theorem build_text {S : MV} (h : (S.map Prod.fst).Nodup) : textM (buildM S (sortM S)) = textM S := by
  have h1 : sortM (buildM S (sortM S)) = sortM S := by
    unfold sortM
    rw [buildM_keys]
    exact mergeSort_of_perm (List.mergeSort_perm _ _)
  unfold textM textT
  rw [h1]
  have key : ∀ ks : List (List UInt8), (∀ k ∈ ks, getM (buildM S (sortM S)) k = getM S k) → ks.flatMap (fun k => textW k ++ textW (getM (buildM S (sortM S)) k)) = ks.flatMap (fun k => textW k ++ textW (getM S k)) := by
    intro ks
    induction ks with
    | nil => intro _; rfl
    | cons x ks ih => intro hk; rw [List.flatMap_cons, List.flatMap_cons, hk x (List.mem_cons_self ..), ih (fun q hq => hk q (List.mem_cons_of_mem _ hq))]
  refine key _ fun k hk => getM_at2 (by rw [buildM_keys]; exact sortM_nodup h) ?_
  exact List.mem_map.2 ⟨k, hk, rfl⟩
theorem build_put {S : MV} {ks : List (List UInt8)} {k : List UInt8} (hk : k ∉ ks) (h1 : 1 ≤ k.length) (h2 : k.length ≤ 16) (h3 : (getM S k).length ≤ 512) : putE (buildM S ks) k (getM S k) = 0 ∧ putM (buildM S ks) k (getM S k) = buildM S (ks ++ [k]) := by
  have hh : hasM (buildM S ks) k = false := by
    cases h : hasM (buildM S ks) k with
    | false => rfl
    | true => exact absurd (by rw [hasM_mem, buildM_keys] at h; exact h) hk
  have he : putE (buildM S ks) k (getM S k) = 0 := by
    unfold putE
    rw [if_neg (by omega), if_neg (by omega), hh]
    rfl
  exact ⟨he, by unfold putM; rw [if_pos he, buildM_snoc]⟩
theorem textT_cons (S : MV) (k : List UInt8) (ks : List (List UInt8)) : textT S (k :: ks) = textW k ++ (textW (getM S k) ++ textT S ks) := by unfold textT; rw [List.flatMap_cons, List.append_assoc]
theorem textW_pos {s : List UInt8} : 0 < (textW s).length := by
  unfold textW
  rw [List.length_append, numW_len]
  split <;> omega
theorem textT_inj {S T : MV} : ∀ {ks ts : List (List UInt8)}, (∀ k ∈ ks, k.length ≤ 16 ∧ (getM S k).length ≤ 512) → (∀ k ∈ ts, k.length ≤ 16 ∧ (getM T k).length ≤ 512) → textT S ks = textT T ts → ks = ts ∧ ∀ k ∈ ks, getM S k = getM T k
  | [], [], _, _, _ => ⟨rfl, fun _ h => by cases h⟩
  | [], t :: ts, _, _, h => by
    rw [textT_cons] at h
    have h1 := congrArg List.length h
    have h2 := @textW_pos t
    rw [List.length_append] at h1
    simp only [textT, List.flatMap_nil, List.length_nil] at h1
    omega
  | k :: ks, [], _, _, h => by
    rw [textT_cons] at h
    have h1 := congrArg List.length h
    have h2 := @textW_pos k
    rw [List.length_append] at h1
    simp only [textT, List.flatMap_nil, List.length_nil] at h1
    omega
  | k :: ks, t :: ts, hk, ht, h => by
    rw [textT_cons, textT_cons] at h
    have a := hk k (List.mem_cons_self ..)
    have b := ht t (List.mem_cons_self ..)
    obtain ⟨rfl, h2⟩ := textW_inj (by omega) (by omega) h
    obtain ⟨h3, h4⟩ := textW_inj (by omega) (by omega) h2
    obtain ⟨rfl, h5⟩ := textT_inj (fun k h => hk k (List.mem_cons_of_mem _ h)) (fun k h => ht k (List.mem_cons_of_mem _ h)) h4
    exact ⟨rfl, fun q hq => by
      rcases List.mem_cons.1 hq with rfl | hq
      · exact h3
      · exact h5 q hq⟩
def Wf (S : MV) : Prop := (S.map Prod.fst).Nodup ∧ ∀ k, hasM S k = true → 1 ≤ k.length ∧ k.length ≤ 16 ∧ (getM S k).length ≤ 512
theorem MAt.wf {lo p b : Nat} {w : World} {S : MV} (h : MAt lo w p b S) : Wf S := by
  obtain ⟨D, _, hr⟩ := h.map
  refine ⟨hr.nd, fun k hk => ?_⟩
  obtain ⟨q, hq, he, hd⟩ := getM_mem hk
  have := hr.wf q hq
  rw [he, hd] at this
  exact this
theorem like_text {S T : MV} (hS : Wf S) (hT : Wf T) : (decide (sortM S = sortM T) && (sortM S).all fun k => getM S k == getM T k) = decide (textM S = textM T) := by
  rw [Bool.eq_iff_iff, Bool.and_eq_true, decide_eq_true_iff, decide_eq_true_iff, List.all_eq_true]
  constructor
  · rintro ⟨h1, h2⟩
    unfold textM
    rw [← h1]
    have key : ∀ ks : List (List UInt8), (∀ k ∈ ks, getM S k = getM T k) → textT S ks = textT T ks := by
      intro ks
      induction ks with
      | nil => intro _; rfl
      | cons x ks ih => intro hk; rw [textT_cons, textT_cons, hk x (List.mem_cons_self ..), ih (fun q hq => hk q (List.mem_cons_of_mem _ hq))]
    exact key _ fun k hk => by simpa using h2 k hk
  · intro h
    obtain ⟨h1, h2⟩ := textT_inj (fun k hk => (hS.2 k (sortM_mem.1 hk)).2) (fun k hk => (hT.2 k (sortM_mem.1 hk)).2) h
    exact ⟨h1, fun k hk => by simpa using h2 k hk⟩
section
set_option maxHeartbeats 2000000
set_option maxRecDepth 8000
/-- All texts ahead of k are one. -/
theorem same_any (A B : Option Addr) (n m c d : Nat) (ss ts : List (List UInt8)) (w : World) (ha : StrsAt w A n ss) (hb : StrsAt w B m ts) (hn : n ≤ 1000000) :
    Calls Try.prog 13 #[.slice A n c, .slice B m d] w fun e w' => e = .returned (.bool (decide (ss = ts))) ∧ ∃ N, w' = w.drewN N := by
  have HA := Lib.hid ha
  have HB := Lib.hid hb
  clear ha hb
  by_cases hnm : n = m
  · subst hnm
    go_enter Try.func13, Try.ntmps13
    go_wp2_with fail
    go_loopw [5] (fun i wx => ∃ k N : Nat, k ≤ n ∧ i = .int .i64 k ∧ wx = w.drewN N ∧ ss.take k = ts.take k) (fun i _ => n - (intOf i).toNat)
    case atStart => exact ⟨0, 0, Nat.zero_le _, rfl, rfl, rfl⟩
    case round =>
      obtain ⟨k, N, hk, rfl, rfl, htk⟩ := hrel
      have TK := Lib.hid htk
      clear htk
      by_cases hkn : k < n
      · have d1 : decide (k < n) = true := by simpa using hkn
        obtain ⟨ga, rfl, _, hca⟩ := HA.out.2.resolve_left (by omega)
        obtain ⟨gb, rfl, _, hcb⟩ := HB.out.2.resolve_left (by omega)
        obtain ⟨s, hs⟩ : ∃ s, ss[k]? = some s := ⟨_, List.getElem?_eq_getElem (by rw [HA.out.1]; exact hkn)⟩
        obtain ⟨t, ht⟩ : ∃ t, ts[k]? = some t := ⟨_, List.getElem?_eq_getElem (by rw [HB.out.1]; exact hkn)⟩
        have ka : ∀ M, ((w.drewN N).drewN M).cell? ⟨ga, k, none⟩ = some (encStr s) := fun M => hca k s hs
        have kb : ∀ M, ((w.drewN N).drewN M).cell? ⟨gb, k, none⟩ = some (encStr t) := fun M => hcb k t ht
        have ka2 : ∀ M, (w.drewN M).cell? ⟨ga, k, none⟩ = some (encStr s) := fun M => hca k s hs
        have kb2 : ∀ M, (w.drewN M).cell? ⟨gb, k, none⟩ = some (encStr t) := fun M => hcb k t ht
        have HS := Lib.hid hs
        have HT := Lib.hid ht
        clear hca hcb hs ht
        by_cases hst : s = t
        · subst hst
          go_wp2_with fail
          go_quiet (fail)
          go_wp2_with fail
          go_roundw
          case rel => exact ⟨k + 1, _, hkn, by go_num, rfl, by rw [List.take_add_one, List.take_add_one, TK.out, HS.out, HT.out]⟩
          case measure => simp [intOf]; omega
        · have e1 : (s != t) = true := by simpa using hst
          have e2 : (s == t) = false := by simpa using hst
          have NE := Lib.hid (show ss ≠ ts from fun e => hst (by have h := HS.out; rw [e, HT.out] at h; injection h with h; exact h.symm))
          clear hst
          go_wp2_with fail
          go_quiet (fail)
          go_wp2_with fail
          go_ret
          exact ⟨by rw [decide_eq_false NE.out]; rfl, N + nq, World.drewN_drewN ..⟩
      · have d1 : decide (k < n) = false := by simpa using hkn
        have EQ := Lib.hid (show ss = ts from by
          have h := TK.out
          rwa [List.take_of_length_le (by rw [HA.out.1]; omega), List.take_of_length_le (by rw [HB.out.1]; omega)] at h)
        go_wp2_with fail
        go_ret
        exact ⟨by rw [decide_eq_true EQ.out]; rfl, N, rfl⟩
  · have e1 : ((n : Int) != m) = true := by simp; omega
    have e2 : ((n : Int) == m) = false := by simp; omega
    have NE := Lib.hid (show ss ≠ ts from fun e => hnm (by rw [← HA.out.1, ← HB.out.1, e]))
    clear hnm
    go_enter Try.func13, Try.ntmps13
    go_wp2_with fail
    go_ret
    exact ⟨by rw [decide_eq_false NE.out]; rfl, 0, rfl⟩
theorem rNew (A : Option Addr) (n c : Nat) (l : List UInt8) (w : World) (hf : Form A n c) (hm : n ≤ 1000000) (h : BytesIn w A n l) :
    Calls Try.prog 22 #[.slice A n c] w fun e w' => ∃ q, e = .returned (.pointer (some ⟨q, 0, none⟩)) ∧ w.heap.size ≤ q ∧ RdAt w' q l false ∧ Below w.heap.size w w' := by
  have H := Lib.hid h
  have HF := Lib.hid hf
  clear h hf
  go_enter Try.func22, Try.ntmps22
  go_wp2_with (go_at_call 33; refine (sclone A n c l _ HF.out hm H.out).mono ?_; rintro e w1 ⟨B, k, rfl, hb, hbe⟩; have HB := Lib.hid hb; have BE := Lib.hid hbe; clear hb hbe)
  go_ret
  refine ⟨w1.heap.size, rfl, BE.out.size, ⟨B, n, k, Blk.made w1 _ _, HB.out.form, ?_, HB.out.bytes.below ((Below.refl _ _).alloc (Nat.le_refl _) _)⟩, BE.out.alloc BE.out.size _⟩
  rcases HB.out.shape with ⟨rfl, _⟩ | ⟨g, rfl⟩
  · exact .inl rfl
  · obtain ⟨cs, hcs, _⟩ := RowAt.of_own HB.out
    exact .inr ⟨g, 0, cs, rfl, Blk.alloc hcs _⟩
theorem law22_made (A : Option Addr) (n c : Nat) (f : Nat → ActV) (w : World) (hA : ActsIn w A n f) (hn : n ≤ c) (hc : c ≤ maxLen) :
    Calls Try.prog 21 #[.slice A n c] w fun e w' => ∃ p b S, e = .returned (.pointer (some ⟨p, 0, none⟩)) ∧ MAt w.heap.size w' p b S ∧ S.length ≤ 30 ∧ Below w.heap.size w w' := by
  have HA := Lib.hid hA
  have hn2 : n ≤ 9223372036854775807 := by simp only [maxLen] at hc; omega
  clear hA hc
  go_enter Try.func21, Try.ntmps21
  go_wp2_with (go_at_call 8; refine (mNew _).mono ?_; rintro e w1 ⟨p, b, rfl, hm1, hb1⟩; have M1 := Lib.hid hm1; have BL1 := Lib.hid hb1; clear hm1 hb1)
  go_loopw [4] (fun i wx => ∃ (k : Nat) (S : MV), k ≤ n ∧ k ≤ 30 ∧ i = .int .i64 k ∧ S.length ≤ k ∧ MAt w.heap.size wx p b S ∧ Below w.heap.size w wx) (fun i _ => n - (intOf i).toNat)
  case atStart => exact ⟨0, [], Nat.zero_le _, by omega, rfl, Nat.le_refl _, M1.out, BL1.out⟩
  case round =>
    clear M1 BL1
    obtain ⟨k, S, hk, hk30, rfl, hSk, hd, hbl⟩ := hrel
    obtain ⟨wo, rfl⟩ : ∃ wo : World, wo = wr := ⟨_, rfl⟩
    have D0 := Lib.hid hd
    have B0 := Lib.hid hbl
    have hz0 := hbl.size
    have hlb := hd.lt
    have hgb := hd.ge
    clear hd hbl
    by_cases h1 : k < n
    · have d1 : decide (k < n) = true := by simpa using h1
      by_cases h2 : k < 30
      · have d2 : decide ((k : Int) < 30) = true := by simp; omega
        obtain ⟨ba, off, rfl, hba, hacts⟩ := HA.out.resolve_left (by omega)
        have hact := hacts k h1
        generalize f k = v at hact
        obtain ⟨g0, key, D, m, d, data⟩ := v
        obtain ⟨a0, a1, a2, hkl, hfm, hby⟩ := hact
        have k0 : wo.cell? ⟨ba, off + k * 3, none⟩ = some (.bool g0) := (B0.out.cell (p := ⟨ba, off + k * 3, none⟩) hba).trans a0
        have k1 : wo.cell? ⟨ba, off + k * 3 + 1, none⟩ = some (encStr key) := (B0.out.cell (p := ⟨ba, off + k * 3 + 1, none⟩) hba).trans a1
        have k2 : wo.cell? ⟨ba, off + k * 3 + 2, none⟩ = some (.slice D m d) := (B0.out.cell (p := ⟨ba, off + k * 3 + 2, none⟩) hba).trans a2
        have HF := Lib.hid (show Form D m d from hfm)
        have HBY := Lib.hid (show BytesIn w D m data from hby)
        have HKL := Lib.hid (show key.length ≤ maxLen from hkl)
        have hnb : ba ≠ b := by omega
        clear a0 a1 a2 hkl hfm hby hacts
        cases g0 with
        | true =>
          go_wp2_with (go_at_call 9; refine (mDelete w.heap.size p b S key _ D0.out HKL.out).mono ?_; rintro e w5 ⟨rfl, hm5, hg5⟩; have M5 := Lib.hid hm5; have B5 := Lib.hid (B0.out.grown hg5 hz0 (fun y hy => by have h : b = y := Option.some.inj hy; omega)); clear hm5 hg5)
          go_roundw
          case rel => exact ⟨k + 1, _, h1, by omega, by go_num, by have := delM_len (S := S) (k := key); omega, M5.out, B5.out⟩
          case measure => simp [intOf]; omega
        | false =>
          go_wp2_with fail
          go_region_held3 (fun w' => w'.cell? ⟨ba, off + k * 3 + 1, none⟩ = some (encStr key) ∧ w'.cell? ⟨ba, off + k * 3 + 2, none⟩ = some (.slice D m d)) (first | exact ⟨k1, k2⟩ | exact KX) (first
            | (go_at_call 11; refine (mPut w.heap.size p b S key D m d data _ (D0.out.below below_drew1) hz0 (by omega) HKL.out HF.out (HBY.out.below (B0.out.trans below_drew1))).mono ?_; rintro e w5 ⟨rfl, hm5, hg5⟩; have KX : w5.cell? ⟨ba, off + k * 3 + 1, none⟩ = some (encStr key) ∧ w5.cell? ⟨ba, off + k * 3 + 2, none⟩ = some (.slice D m d) := (by have hx := (hg5.block ba (by simp; omega) (fun e => hnb (Option.some.inj e))); exact ⟨by rw [← k1]; exact World.cell?_of_block hx, by rw [← k2]; exact World.cell?_of_block hx⟩); have M5 := Lib.hid hm5; have B5 := Lib.hid ((B0.out.trans below_drew1).grown hg5 hz0 (fun y hy => by have h : b = y := Option.some.inj hy; omega)); clear hm5 hg5))
          go_wp2_with fail
          go_roundw
          case rel => exact ⟨k + 1, _, h1, by omega, by go_num, by have := putM_len S key data; omega, M5.out, B5.out⟩
          case measure => simp [intOf]; omega
      · have d2 : decide ((k : Int) < 30) = false := by simp; omega
        go_wp2_with fail
        go_ret
        exact ⟨p, b, S, rfl, D0.out, by omega, B0.out⟩
    · have d1 : decide (k < n) = false := by simpa using h1
      go_wp2_with fail
      go_ret
      exact ⟨p, b, S, rfl, D0.out, by omega, B0.out⟩
end
end Go.Proofs.Ytgkgieemdjbhpaa
