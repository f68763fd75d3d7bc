/- Package word's Reader: a number, on any bytes. No condition beyond those that each theorem states. -/
import Derived.Test.YtgkgieemdjbhpaaMA5
import Derived.Test.YtgkgieemdjbhpaaG1
import Derived.Laws.BitsAllLaws
namespace Go.Proofs.Ytgkgieemdjbhpaa
open Go.RowKit

/-- The reader at q has these bytes left; bad: was anything wrong? -/
structure RdAt (w : World) (q : Nat) (l : List UInt8) (bad : Bool) : Prop where intro ::
  ex : ∃ A m d, Blk w q 70 #[.slice A m d, .bool bad] ∧ Form A m d ∧ (A = none ∨ ∃ b off cs, A = some ⟨b, off, none⟩ ∧ Blk w b 5 cs) ∧ BytesIn w A m l
/-- A number from a place on: the number, whether it has no more bytes than it needs, what is left. -/
def goR : Nat → Nat → List UInt8 → Option (Nat × Bool × List UInt8)
  | _, _, [] => none
  | n, u, c :: r => if n = 9 then none else if c.toNat < 128 then some (u + c.toNat % 128 * 128 ^ n, n == 0 || decide (0 < c.toNat), r) else goR (n + 1) (u + c.toNat % 128 * 128 ^ n) r
def nextR (l : List UInt8) : Option (Nat × Bool × List UInt8) := goR 0 0 l
theorem goR_lt : ∀ (l : List UInt8) (n u N : Nat) (ok : Bool) (r : List UInt8), n ≤ 9 → u < 128 ^ n → goR n u l = some (N, ok, r) → N < 2 ^ 63 ∧ r.length < l.length
  | [], _, _, _, _, _, _, _, h => by cases h
  | c :: l, n, u, N, ok, r, hn, hu, h => by
    have h8 : c.toNat % 128 * 128 ^ n ≤ 127 * 128 ^ n := Nat.mul_le_mul_right _ (by omega)
    have hs : (128 : Nat) ^ (n + 1) = 128 * 128 ^ n := by rw [Nat.pow_succ]; omega
    unfold goR at h
    split at h
    · cases h
    · have hn8 : n ≤ 8 := by omega
      have hp : (128 : Nat) ^ n ≤ 128 ^ 8 := Nat.pow_le_pow_right (by omega) hn8
      split at h
      · cases h
        exact ⟨by omega, by simp⟩
      · have := goR_lt l (n + 1) _ N ok r (by omega) (by omega) h
        exact ⟨this.1, by simp; omega⟩
theorem pow_7 (k : Nat) : (2 : Nat) ^ (7 * k) = 128 ^ k := by rw [Nat.pow_mul]
theorem or_shift {U x k : Nat} (hU : U < 128 ^ k) (hk : k ≤ 8) : bits .or .u64 (U : Int) (IntKind.u64.wrap ((x : Int) % 128 * 2 ^ (7 * k))) = ((U + x % 128 * 128 ^ k : Nat) : Int) := by
  have hp : (128 : Nat) ^ k ≤ 128 ^ 8 := Nat.pow_le_pow_right (by omega) hk
  have h8 : x % 128 * 128 ^ k ≤ 127 * 128 ^ k := Nat.mul_le_mul_right _ (by omega)
  have e1 : ((x : Int) % 128 * 2 ^ (7 * k)) = ((x % 128 * 128 ^ k : Nat) : Int) := by rw [← pow_7]; push_cast; rfl
  rw [e1]
  have e2 : IntKind.u64.wrap ((x % 128 * 128 ^ k : Nat) : Int) = ((x % 128 * 128 ^ k : Nat) : Int) := by
    simp only [IntKind.wrap, IntKind.bits, IntKind.signed, Bool.false_and, Bool.false_eq_true, if_false]
    omega
  rw [e2, u64_or_nat _ _ (by omega) (by omega), Nat.or_comm, nat_join (7 * k) _ _ (by rw [pow_7]; exact Nat.mul_mod_left _ _) (by rw [pow_7]; exact hU), Nat.add_comm]
theorem or_shift0 {U x : Nat} (hU : U < 128 ^ 0) : bits .or .u64 (U : Int) ((x : Int) % 128) = ((U + x % 128 * 128 ^ 0 : Nat) : Int) := by
  have h := or_shift (x := x) hU (by omega)
  rwa [show ((x : Int) % 128 * 2 ^ (7 * 0)) = (x : Int) % 128 by simp, show IntKind.u64.wrap ((x : Int) % 128) = (x : Int) % 128 by
    simp only [IntKind.wrap, IntKind.bits, IntKind.signed, Bool.false_and, Bool.false_eq_true, if_false]
    omega] at h
theorem drop_get {l : List UInt8} {k : Nat} {c : UInt8} (h : l[k]? = some c) : l.drop k = c :: l.drop (k + 1) := by
  obtain ⟨h1, rfl⟩ := List.getElem?_eq_some_iff.1 h
  exact List.drop_eq_getElem_cons h1
theorem goR_end {k U : Nat} {l : List UInt8} (h : l.length ≤ k) : goR k U (l.drop k) = none := by rw [List.drop_eq_nil_of_le h]; rfl
theorem goR_nine {k U : Nat} {l : List UInt8} (h : k = 9) : goR k U l = none := by cases l <;> simp [goR, h]
theorem goR_last {l : List UInt8} {k U x : Nat} {c : UInt8} (h : l[k]? = some c) (hx : c.toNat = x) (hk : k ≠ 9) (h8 : x < 128) : goR k U (l.drop k) = some (U + x % 128 * 128 ^ k, k == 0 || decide (0 < x), l.drop (k + 1)) := by
  rw [drop_get h]; subst hx; simp only [goR]; rw [if_neg hk, if_pos h8]
theorem goR_more {l : List UInt8} {k U x : Nat} {c : UInt8} (h : l[k]? = some c) (hx : c.toNat = x) (hk : k ≠ 9) (h8 : ¬ x < 128) : goR k U (l.drop k) = goR (k + 1) (U + x % 128 * 128 ^ k) (l.drop (k + 1)) := by
  rw [drop_get h]; subst hx; simp only [goR]; rw [if_neg hk, if_neg h8]
theorem u_more {U x k : Nat} (hU : U < 128 ^ k) : U + x % 128 * 128 ^ k < 128 ^ (k + 1) := by
  have h8 : x % 128 * 128 ^ k ≤ 127 * 128 ^ k := Nat.mul_le_mul_right _ (by omega)
  have hs : (128 : Nat) ^ (k + 1) = 128 * 128 ^ k := by rw [Nat.pow_succ]; omega
  omega
theorem ret_u64 {a b : Int} {ok : Bool} (h : a = b) : Ending.returned (.tuple #[.int .u64 a, .bool ok]) = .returned (.tuple #[.int .u64 b, .bool ok]) := by rw [h]
theorem slot_u64 {a b : Int} (h : a = b) : Value.int .u64 a = .int .u64 b := by rw [h]
theorem BytesIn.back {w : World} {b off m : Nat} {pre rest : List UInt8} (h : BytesIn w (some ⟨b, off, none⟩) m (pre ++ rest)) {o' : Nat} (ho : o' = off + pre.length ∨ rest = []) : BytesIn w (some ⟨b, o', none⟩) rest.length rest := by
  refine ⟨rfl, ?_⟩
  by_cases hr : rest = []
  · left; rw [hr]; rfl
  · right
    have ho' := ho.resolve_right hr
    have hl := h.1
    rw [List.length_append] at hl
    have : rest.length ≠ 0 := fun e => hr (List.eq_nil_of_length_eq_zero e)
    obtain ⟨b', off', e, hz, hc⟩ := h.2.resolve_left (by omega)
    cases e
    refine ⟨b, o', rfl, hz, fun i u hu => ?_⟩
    have := hc (pre.length + i) u (by rw [List.getElem?_append_right (by omega), Nat.add_sub_cancel_left]; exact hu)
    rw [ho', Nat.add_assoc]
    exact this
theorem rd_cut {w : World} {q b off m d o' m' d' : Nat} {bad : Bool} {pre rest cs} (hq : Blk w q 70 #[.slice (some ⟨b, off, none⟩) m d, .bool bad]) (hb : Blk w b 5 cs)
    (h : BytesIn w (some ⟨b, off, none⟩) m (pre ++ rest)) (ho : o' = off + pre.length ∨ rest = []) (hm' : m' = rest.length) (hmd : m' ≤ d') (hd : d' ≤ maxLen) :
    RdAt (w.setCell ⟨q, 0, none⟩ (.slice (some ⟨b, o', none⟩) m' d')) q rest bad ∧ Chg (fun i => i = q) w (w.setCell ⟨q, 0, none⟩ (.slice (some ⟨b, o', none⟩) m' d')) := by
  have hne : b ≠ q := blk_ne hb hq (by decide)
  subst hm'
  refine ⟨⟨some ⟨b, o', none⟩, _, d', hq.store 0 _, ⟨hmd, hd, fun e => by cases e⟩, .inr ⟨b, o', _, rfl, hb.apart hne _⟩, (h.back ho).keep (by simp [World.setCell]) fun b' off' e _ => ?_⟩, (Chg.refl (fun i => i = q) w).store (p := ⟨q, 0, none⟩) (.inl rfl) _⟩
  cases e
  exact Below.heap_setCell w _ _ b hne
section
set_option maxHeartbeats 2000000
set_option maxRecDepth 4000
def NextPost (q : Nat) (l : List UInt8) (w : World) (e : Ending) (w' : World) : Prop :=
  (nextR l = none ∧ e = .returned (.tuple #[.int .u64 0, .bool false]) ∧ w = w') ∨ (∃ (N : Nat) (ok : Bool) (r : List UInt8), nextR l = some (N, ok, r) ∧ e = .returned (.tuple #[.int .u64 N, .bool ok]) ∧ RdAt w' q r false ∧ Chg (fun i => i = q) w w')
theorem rnext_some (q b off m d : Nat) (cs : Array Value) (l : List UInt8) (w : World) (hq : Blk w q 70 #[.slice (some ⟨b, off, none⟩) m d, .bool false]) (hb : Blk w b 5 cs) (hmd : m ≤ d) (hd : d ≤ maxLen)
    (h : BytesIn w (some ⟨b, off, none⟩) m l) (hm0 : 0 < m) :
    Calls Try.prog 40 #[.pointer (some ⟨q, 0, none⟩)] w (NextPost q l w) := by
  have hm : l.length = m := h.1
  obtain ⟨b', o', e, hbz, hc⟩ := h.2.resolve_left (by omega)
  cases e
  have k0 : w.cell? ⟨q, 0, none⟩ = some (.slice (some ⟨b, off, none⟩) m d) := hq.cell 0
  have kf : w.frozen? ⟨q, 0, none⟩ = false := hq.free 0
  have H := Lib.hid h
  have HQ := Lib.hid hq
  have HL := Lib.hid hm
  have HC := Lib.hid hc
  have hmax : m ≤ 9223372036854775807 := by simp only [maxLen] at hd; omega
  have HB := Lib.hid hb
  clear h hc hq hb hm
  go_enter Try.func40, Try.ntmps40
  go_wp2_with fail
  go_loopw [4, 12] (fun u i wx => ∃ k U : Nat, k ≤ m ∧ k ≤ 9 ∧ U < 128 ^ k ∧ nextR l = goR k U (l.drop k) ∧ u = .int .u64 U ∧ i = .int .i64 k ∧ wx = w) (fun _ i _ => m - (intOf i).toNat)
  case atStart => exact ⟨0, 0, by omega, by omega, by simp, rfl, rfl, rfl, rfl⟩
  case round =>
    obtain ⟨k, U, hkm, hk9, hU, hgo, rfl, rfl, rfl⟩ := hrel
    have HG := Lib.hid hgo
    have HU := Lib.hid hU
    clear hgo hU
    by_cases h1 : k < m
    · have d1 : decide ((k : Int) < m) = true := by simp; omega
      obtain ⟨c, hcc⟩ : ∃ c, l[k]? = some c := ⟨_, List.getElem?_eq_getElem (by rw [HL.out]; exact h1)⟩
      obtain ⟨x, hxc⟩ : ∃ x, c.toNat = x := ⟨_, rfl⟩
      have c0 : wr.cell? ⟨b, off + k, none⟩ = some (.int .u8 (x : Int)) := by rw [← hxc]; exact HC.out k c hcc
      have hc256 : x < 256 := by rw [← hxc]; exact c.toNat_lt
      have HCC := Lib.hid hcc
      have HXC := Lib.hid hxc
      have hsp : l = l.take (k + 1) ++ l.drop (k + 1) := (List.take_append_drop _ _).symm
      have HSP := Lib.hid (show BytesIn wr (some ⟨b, off, none⟩) m (l.take (k + 1) ++ l.drop (k + 1)) from hsp ▸ H.out)
      have HTL := Lib.hid (show (l.take (k + 1)).length = k + 1 by rw [List.length_take, HL.out]; omega)
      have HDL := Lib.hid (show (l.drop (k + 1)).length = m - (k + 1) by rw [List.length_drop, HL.out])
      clear hcc hxc hsp
      by_cases h9 : k = 9
      · subst h9
        go_wp2_with fail
        go_ret2
        exact .inl ⟨HG.out.trans (goR_nine rfl), rfl, rfl⟩
      · have d2 : ((k : Int) == 9) = false := by simp; omega
        by_cases hx : x < 128
        · have d3 : decide ((x : Int) < 128) = true := by simp; omega
          by_cases hk0 : k = 0
          · subst hk0
            have c1 : wr.cell? ⟨b, off, none⟩ = some (.int .u8 (x : Int)) := c0
            clear c0
            have d6 : decide ((0 : Int) < m) = true := by simp; omega
            have hgl := Lib.hid (HG.out.trans (goR_last HCC.out HXC.out (by omega) hx))
            by_cases hdk : d = 1
            · subst hdk
              go_wp2_with fail
              go_ret2
              have h := rd_cut (o' := off) (m' := 0) (d' := 0) HQ.out HB.out HSP.out (.inr (List.eq_nil_of_length_eq_zero (by rw [HDL.out]; omega))) (by rw [HDL.out]; omega) (by omega) (by simp [maxLen])
              exact .inr ⟨_, _, _, hgl.out, ret_u64 (or_shift0 HU.out), h.1, h.2⟩
            · go_wp2_with fail
              go_ret2
              have h := rd_cut (o' := off + 1) (m' := m - 1) (d' := d - 1) HQ.out HB.out HSP.out (.inl (by rw [HTL.out])) HDL.out.symm (by omega) (by omega)
              exact .inr ⟨_, _, _, hgl.out, ret_u64 (or_shift0 HU.out), h.1, h.2⟩
          · have d4 : ((k : Int) == 0) = false := by simp; omega
            by_cases hx0 : 0 < x
            · have d5 : decide ((0 : Int) < x) = true := by simp; omega
              have hgl := Lib.hid (HG.out.trans (goR_last HCC.out HXC.out (by omega) hx))
              have hok : (k == 0 || decide (0 < x)) = true := by simp [hx0]
              have HOK := Lib.hid hok
              clear hok
              by_cases hdk : d = k + 1
              · subst hdk
                go_wp2_with fail
                go_ret2
                have h := rd_cut (o' := off) (m' := 0) (d' := 0) HQ.out HB.out HSP.out (.inr (List.eq_nil_of_length_eq_zero (by rw [HDL.out]; omega))) (by rw [HDL.out]; omega) (by omega) (by simp [maxLen])
                exact .inr ⟨_, true, _, HOK.out ▸ hgl.out, ret_u64 (or_shift HU.out (by omega)), h.1, h.2⟩
              · go_wp2_with fail
                go_ret2
                have h := rd_cut (o' := off + (k + 1)) (m' := m - (k + 1)) (d' := d - (k + 1)) HQ.out HB.out HSP.out (.inl (by rw [HTL.out])) HDL.out.symm (by omega) (by omega)
                exact .inr ⟨_, true, _, HOK.out ▸ hgl.out, ret_u64 (or_shift HU.out (by omega)), h.1, h.2⟩
            · obtain rfl : x = 0 := by omega
              have hgl := Lib.hid (HG.out.trans (goR_last HCC.out HXC.out (by omega) hx))
              have hok : (k == 0 || decide (0 < 0)) = false := by simp [hk0]
              have HOK := Lib.hid hok
              clear hok
              have HO : Hid (bits .or .u64 (U : Int) 0 = ((U + 0 % 128 * 128 ^ k : Nat) : Int)) := Lib.hid (by
                have h := or_shift (x := 0) HU.out (by omega)
                rwa [show ((0 : Nat) : Int) % 128 * 2 ^ (7 * k) = 0 by simp, show IntKind.u64.wrap 0 = 0 from by decide] at h)
              by_cases hdk : d = k + 1
              · subst hdk
                go_wp2_with fail
                go_ret2
                have h := rd_cut (o' := off) (m' := 0) (d' := 0) HQ.out HB.out HSP.out (.inr (List.eq_nil_of_length_eq_zero (by rw [HDL.out]; omega))) (by rw [HDL.out]; omega) (by omega) (by simp [maxLen])
                exact .inr ⟨_, false, _, HOK.out ▸ hgl.out, ret_u64 HO.out, h.1, h.2⟩
              · go_wp2_with fail
                go_ret2
                have h := rd_cut (o' := off + (k + 1)) (m' := m - (k + 1)) (d' := d - (k + 1)) HQ.out HB.out HSP.out (.inl (by rw [HTL.out])) HDL.out.symm (by omega) (by omega)
                exact .inr ⟨_, false, _, HOK.out ▸ hgl.out, ret_u64 HO.out, h.1, h.2⟩
        · have d3 : decide ((x : Int) < 128) = false := by simp; omega
          go_wp2_with fail
          go_roundw
          case rel => exact ⟨k + 1, _, by omega, by omega, u_more HU.out, HG.out.trans (goR_more HCC.out HXC.out h9 hx), slot_u64 (or_shift HU.out (by omega)), by go_num, trivial⟩
          case measure => simp [intOf]; omega
    · have d1 : decide ((k : Int) < m) = false := by simp; omega
      have hkm2 : l.length ≤ k := by rw [HL.out]; omega
      have HK2 := Lib.hid hkm2
      clear hkm2
      go_wp2_with fail
      go_ret2
      exact .inl ⟨HG.out.trans (goR_end HK2.out), rfl, rfl⟩
end
end Go.Proofs.Ytgkgieemdjbhpaa
