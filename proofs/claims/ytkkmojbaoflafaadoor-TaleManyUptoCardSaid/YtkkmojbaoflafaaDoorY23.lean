/- Is a sign in a text. No condition beyond those that each theorem states. -/
import Derived.Test.YtkkmojbaoflafaaDoorY22
namespace Go.Proofs.YtkkmojbaoflafaaDoor
open Go.RowKit Go.Shelf
attribute [local go_sem] Oper.semAt_some

set_option maxHeartbeats 4000000 in
theorem rHas (s : Str) (c : UInt8) (w : World) (hs : s.length ≤ 140737488355328) : Calls Tryd.prog 23 #[strV s, .int .u8 (c.toNat : Int)] w fun e w' => e = .returned (.bool (s.contains c)) ∧ w = w' := by
  obtain ⟨n, hn⟩ : ∃ n, s.length = n := ⟨_, rfl⟩
  have HN := Lib.hid hn
  have hn9 : n ≤ 140737488355328 := by rw [← hn]; exact hs
  clear hs
  obtain ⟨bo, hbo⟩ : ∃ bo, s.contains c = bo := ⟨_, rfl⟩
  rw [hbo]
  have HB := Lib.hid hbo
  clear hbo
  go_enter Tryd.func23, Tryd.ntmps23
  go_wp2_with fail
  go_loopw [5] (fun iv wr => ∃ i : Nat, iv = .int .i64 i ∧ i ≤ n ∧ c ∉ s.take i ∧ wr = w) (fun iv _ => n - (intOf iv).toNat)
  case atStart => exact ⟨0, rfl, Nat.zero_le _, by simp, rfl⟩
  case round =>
    obtain ⟨i, rfl, hin, hcalm, rfl⟩ := hrel
    have CA := Lib.hid hcalm
    clear hcalm
    by_cases hlt : i < n
    · obtain ⟨ch, hch⟩ : ∃ ch, s[i]? = some ch := ⟨_, List.getElem?_eq_getElem (by omega)⟩
      have HCH := Lib.hid hch
      have e0 : ∀ h, ((⟨s.toArray⟩ : ByteArray)[i]'h).toNat = ch.toNat := fun h => congrArg UInt8.toNat (List.getElem?_eq_some_iff.1 hch).2
      have f1 : decide ((i : Int) < (n : Int)) = true := decide_eq_true (by omega)
      have f2 : (i : Int) < (n : Int) := by omega
      have f3 : (0 : Int) ≤ (i : Int) := by omega
      have p1 : IntKind.i64.wrap ((i : Int) + 1) = ((i + 1 : Nat) : Int) := by rw [IntWalk.i64_in _ (by omega)]; omega
      clear hch hin
      by_cases hc : ch = c
      · subst hc
        have q1 : ((ch.toNat : Int) == (ch.toNat : Int)) = true := by simp
        go_wp2_with fail
        go_ret
        have hm : s.contains ch = true := by
          rw [List.contains_iff_mem]
          exact List.mem_of_getElem? HCH.out
        obtain rfl : bo = true := by rw [← HB.out]; exact hm
        exact ⟨by rfl, by first | rfl | trivial⟩
      · have q1 : ((ch.toNat : Int) == (c.toNat : Int)) = false := by rw [beq_eq_false_iff_ne]; intro h; exact hc (UInt8.toNat_inj.1 (by omega))
        have HC := Lib.hid hc
        clear hc
        go_wp2_with fail
        go_roundw
        case rel => exact ⟨i + 1, by simp, hlt, by have h := take_one (f := 0) HCH.out (Nat.zero_le _); simp only [List.drop_zero] at h; rw [h]; intro hm; rcases List.mem_append.1 hm with hm | hm; exact CA.out hm; exact HC.out (List.mem_singleton.1 hm).symm, by first | rfl | trivial⟩
        case measure =>
          simp only [intOf]
          omega
    · have hie : i = n := by omega
      have f1 : decide ((i : Int) < (n : Int)) = false := decide_eq_false (by omega)
      have f2 : ¬ (i : Int) < (n : Int) := by omega
      have HM := Lib.hid (show s.contains c = false by
        have h := CA.out
        rw [List.take_of_length_le (by omega)] at h
        simpa using h)
      clear hie hin hlt
      go_wp2_with fail
      go_ret
      obtain rfl : bo = false := by rw [← HB.out]; exact HM.out
      exact ⟨by rfl, by first | rfl | trivial⟩
end Go.Proofs.YtkkmojbaoflafaaDoor
