/- What the document's Get and Keys hand out; two lists of texts that are one. No condition beyond those that each theorem states. -/
import Derived.Test.YtgkgieemdjbhpaaRA4
namespace Go.Proofs.Ytgkgieemdjbhpaa
open Go.RowKit Go.Maps

theorem key_one {R : MV} (h : (R.map Prod.fst).Nodup) {p q : List UInt8 × List UInt8} (hp : p ∈ R) (hq : q ∈ R) (e : p.1 = q.1) : p = q := by
  induction R with
  | nil => cases hp
  | cons x R ih =>
    rw [List.map_cons, List.nodup_cons] at h
    rcases List.mem_cons.1 hp with h1 | h1
    · rcases List.mem_cons.1 hq with h2 | h2
      · rw [h1, h2]
      · exact absurd (by rw [← h1, e]; exact List.mem_map_of_mem h2) h.1
    · rcases List.mem_cons.1 hq with h2 | h2
      · exact absurd (by rw [← h2, ← e]; exact List.mem_map_of_mem h1) h.1
      · exact ih h.2 h1 h2
theorem getM_at {R : MV} (h : (R.map Prod.fst).Nodup) {key d : List UInt8} (hq : (key, d) ∈ R) : getM R key = d := by
  obtain ⟨q, hq2, he, hg⟩ := getM_mem (hasM_mem.2 (List.mem_map.2 ⟨_, hq, rfl⟩))
  have := key_one h hq2 hq he
  rw [← hg, this]
theorem getM_none {R : MV} {key : List UInt8} (h : hasM R key = false) : getM R key = [] := by
  unfold getM
  have hx : R.find? (fun q => q.1 == key) = none := by
    rw [List.find?_eq_none]
    intro y hy hye
    unfold hasM at h
    rw [List.any_eq_false] at h
    exact h y hy hye
  rw [hx]; rfl
theorem tup_str {a b : List UInt8} {x y : Bool} (h : a = b) (k : x = y) : Ending.returned (.tuple #[encStr a, .bool x]) = .returned (.tuple #[encStr b, .bool y]) := by rw [h, k]
set_option maxHeartbeats 4000000 in
theorem rGet (lo r : Nat) (R : MV) (key : List UInt8) (w : World) (h : RAt lo w r R) (hR : R.length ≤ 1000000) (hr : Rising R) :
    Calls Try.prog 19 #[.pointer (some ⟨r, 0, none⟩), encStr key] w fun e w' => e = .returned (.tuple #[encStr (getM R key), .bool (hasM R key)]) ∧ ∃ N, w' = w.drewN N := by
  have HH := Lib.hid h
  have HR := Lib.hid hr
  clear h hr
  go_enter Try.func19, Try.ntmps19
  go_wp2_with fail
  refine (rIs lo r R key w HH.out hR).mono ?_
  rintro e w1 ⟨⟨k, has, rfl, his⟩, N, rfl⟩
  have hhas := his.has_eq HR.out
  cases has with
  | false =>
    have HHS := Lib.hid hhas
    clear hhas his
    go_wp2_with fail
    go_ret2
    exact ⟨tup_str (getM_none HHS.out.symm).symm HHS.out, N, rfl⟩
  | true =>
    have HHS := Lib.hid hhas
    obtain ⟨dd, hkd⟩ := his.at_
    have hkR : k < R.length := (List.getElem?_eq_some_iff.1 hkd).1
    obtain ⟨_, B, c, hblk, hrow⟩ := HH.out
    rcases own_form hrow with ⟨rfl, h0, rfl⟩ | ⟨g, rfl⟩
    · omega
    · have c0 : (w.drewN N).cell? ⟨r, 0, none⟩ = some (.slice (some ⟨g, 0, none⟩) R.length c) := hblk.cell 0
      have k1 : (w.drewN N).cell? ⟨g, k * 2 + 1, none⟩ = some (encStr dd) := row_data hrow hkd
      have HG := Lib.hid (getM_at HR.out.nodup (List.mem_of_getElem? hkd))
      have d1 : decide (k < R.length) = true := by simpa using hkR
      clear hhas his hkd hblk hrow
      generalize R.length = n at *
      go_wp2_with fail
      go_ret2
      exact ⟨tup_str HG.out.symm HHS.out, N, rfl⟩
theorem str_info : (Try.prog.info? 9).map (fun i => (i.zero, i.size, i.bytes)) = some (some (.string ⟨#[]⟩), 1, 16) := by kernel_rfl
set_option maxHeartbeats 4000000 in
theorem rKeys (lo r : Nat) (R : MV) (w : World) (h : RAt lo w r R) (hR : R.length ≤ 1000000) :
    Calls Try.prog 15 #[.pointer (some ⟨r, 0, none⟩)] w fun e w' => ∃ B c, e = .returned (.slice B R.length c) ∧ StrsAt w' B R.length (R.map Prod.fst) ∧ Below w.heap.size w w' := by
  obtain ⟨i0, hi0, hz0, hz1, hz2⟩ := info_parts str_info
  have hlt := h.lt
  obtain ⟨_, B, c, hblk, hrow⟩ := h
  have BK := Lib.hid hblk
  have RW := Lib.hid hrow
  generalize hn : R.length = n at *
  have HN := Lib.hid hn
  clear hblk hrow hn
  go_enter Try.func15, Try.ntmps15
  go_wp2_with fail
  go_loopw [3, 4] (fun v i wx => ∃ (k : Nat) (X : Option Addr) (cx : Nat), k ≤ n ∧ i = .int .i64 k ∧ v = .slice X k cx ∧ wx.ownsRow w.heap.size 9 1 (.slice X k cx) k ((R.take k).map fun q => encStr q.1) ∧ Below w.heap.size w wx) (fun _ i _ => n - (intOf i).toNat)
  case atStart => exact ⟨0, _, 0, Nat.zero_le _, rfl, rfl, own_made w _ 1 rfl (Nat.le_refl _), (Below.refl _ _).alloc (Nat.le_refl _) _⟩
  case round =>
    obtain ⟨k, X, cx, hk, rfl, rfl, hown, hbl⟩ := hrel
    obtain ⟨wo, rfl⟩ : ∃ wo : World, wo = wr := ⟨_, rfl⟩
    have OW := Lib.hid hown
    have BL := Lib.hid hbl
    have hz := hbl.size
    have c0 : wo.cell? ⟨r, 0, none⟩ = some (.slice B n c) := (BK.out.below hbl hlt).cell 0
    clear hown hbl
    by_cases hkn : k < n
    · have d1 : decide (k < n) = true := by simpa using hkn
      obtain ⟨⟨pk, pd⟩, hp⟩ : ∃ q, R[k]? = some q := ⟨_, List.getElem?_eq_getElem (by rw [HN.out]; exact hkn)⟩
      rcases own_form RW.out with ⟨rfl, h0, rfl⟩ | ⟨g, rfl⟩
      · omega
      · have hg := RW.out.lt g rfl
        have k0 : wo.cell? ⟨g, k * 2, none⟩ = some (encStr pk) := (BL.out.cell (p := ⟨g, k * 2, none⟩) hg.2).trans (row_key RW.out hp)
        have HP := Lib.hid hp
        clear hp
        go_wp2_with (
          (at_builtin
           refine wpList_append_form _ rfl (.tmp 15) (.tmp 24) 38 rfl w.heap.size 9 i0 _ 1 16 Try.underlying38 hi0 hz0 hz1 hz2 rfl (by omega) _ k ((R.take k).map fun q => encStr q.1) rfl (by exact OW.out.alloc _) (some ⟨wo.heap.size, 0, none⟩) 1 1 [encStr pk] rfl rfl (fun e => by cases e) (by exact src_new _ _ _ _) (by intro u hu; simp only [List.mem_cons, List.not_mem_nil, or_false] at hu; subst hu; rfl) (by omega) (by simp only [maxLen]; omega) (by omega) (by simp; omega) ?_
           intro g2 cap w4 hown4 hg4 hat4 hlt4
           have O4 := Lib.hid hown4
           have G4 := Lib.hid hg4
           clear hown4 hg4 hat4))
        go_roundw
        case rel => exact ⟨k + 1, _, cap, hkn, by go_num, rfl, by
          rw [List.take_add_one, HP.out, Option.toList_some, List.map_append]
          exact O4.out, (BL.out.alloc (by exact hz) _).grown G4.out (by simp; omega) (fun y hy => (OW.out.lt y hy).1)⟩
        case measure => simp [intOf]; omega
    · have d1 : decide (k < n) = false := by simpa using hkn
      obtain rfl : k = n := by omega
      go_wp2_with fail
      go_ret
      refine ⟨X, cx, rfl, ⟨by rw [List.length_map, HN.out], ?_⟩, BL.out⟩
      have ho := OW.out
      rw [List.take_of_length_le (by rw [HN.out]; exact Nat.le_refl _)] at ho
      rcases own_form ho with ⟨rfl, h0, rfl⟩ | ⟨g, rfl⟩
      · exact .inl ⟨rfl, h0⟩
      · exact .inr ⟨g, rfl, own_lt ho, fun i u hu => own_cell ho (by
          rw [List.getElem?_map] at hu ⊢
          cases hq : R[i]? with
          | none => rw [hq] at hu; cases hu
          | some q => rw [hq] at hu; cases hu; rfl)⟩
set_option maxHeartbeats 4000000 in
theorem same_strs (A B : Option Addr) (n c d : Nat) (ss : List (List UInt8)) (w : World) (ha : StrsAt w A n ss) (hb : StrsAt w B n ss) (hn : n ≤ 1000000) :
    Calls Try.prog 13 #[.slice A n c, .slice B n d] w fun e w' => e = .returned (.bool true) ∧ ∃ N, w' = w.drewN N := by
  have HA := Lib.hid ha
  have HB := Lib.hid hb
  clear ha hb
  go_enter Try.func13, Try.ntmps13
  go_wp2_with fail
  go_loopw [5] (fun i wx => ∃ k N : Nat, k ≤ n ∧ i = .int .i64 k ∧ wx = w.drewN N) (fun i _ => n - (intOf i).toNat)
  case atStart => exact ⟨0, 0, Nat.zero_le _, rfl, rfl⟩
  case round =>
    obtain ⟨k, N, hk, rfl, rfl⟩ := hrel
    by_cases hkn : k < n
    · have d1 : decide (k < n) = true := by simpa using hkn
      obtain ⟨ga, rfl, _, hca⟩ := HA.out.2.resolve_left (by omega)
      obtain ⟨gb, rfl, _, hcb⟩ := HB.out.2.resolve_left (by omega)
      obtain ⟨s, hs⟩ : ∃ s, ss[k]? = some s := ⟨_, List.getElem?_eq_getElem (by rw [HA.out.1]; exact hkn)⟩
      have ka : ∀ M, ((w.drewN N).drewN M).cell? ⟨ga, k, none⟩ = some (encStr s) := fun M => hca k s hs
      have kb : ∀ M, ((w.drewN N).drewN M).cell? ⟨gb, k, none⟩ = some (encStr s) := fun M => hcb k s hs
      have ka2 : ∀ M, (w.drewN M).cell? ⟨ga, k, none⟩ = some (encStr s) := fun M => hca k s hs
      have kb2 : ∀ M, (w.drewN M).cell? ⟨gb, k, none⟩ = some (encStr s) := fun M => hcb k s hs
      clear hca hcb hs
      go_wp2_with fail
      go_quiet (fail)
      go_wp2_with fail
      go_roundw
      case rel => exact ⟨k + 1, _, hkn, by go_num, rfl⟩
      case measure => simp [intOf]; omega
    · have d1 : decide (k < n) = false := by simpa using hkn
      go_wp2_with fail
      go_ret
      exact ⟨rfl, N, rfl⟩
end Go.Proofs.Ytgkgieemdjbhpaa
