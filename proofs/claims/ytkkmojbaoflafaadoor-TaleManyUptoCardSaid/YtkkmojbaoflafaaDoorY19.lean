/- The document's number as text. No condition beyond those that each theorem states. -/
import Derived.Test.YtkkmojbaoflafaaDoorY15
import Derived.Test.YtkkmojbaoflafaaDoorY13
namespace Go.Proofs.YtkkmojbaoflafaaDoor
open Go.RowKit Go.Shelf
attribute [local go_sem] Oper.semAt_some

def digs (m : Nat) : Str := if m = 0 then [] else Lib.decDigits m
theorem digs_pos {m : Nat} (h : m ≠ 0) : digs m = Lib.decDigits m := if_neg h
theorem digs_step {m : Nat} (h : m ≠ 0) : digs m = digs (m / 10) ++ [UInt8.ofNat (48 + m % 10)] := by
  rw [digs_pos h, Lib.decDigits]
  split
  · rename_i h1
    have h2 : m / 10 = 0 := by omega
    have h3 : m % 10 = m := by omega
    rw [h2, h3]
    rfl
  · rw [digs_pos (by omega)]
theorem str_cat (a b : Str) : (⟨a.toArray⟩ : ByteArray) ++ ⟨b.toArray⟩ = ⟨(a ++ b).toArray⟩ := by
  apply ByteArray.ext
  simp
set_option maxHeartbeats 4000000 in
set_option maxRecDepth 100000 in
theorem rNum (n : Int) (hn : Wf64 n) (w : World) : Calls Tryd.prog 25 #[.int .i64 n] w fun e w' => e = .returned (strV (Lib.itoa n)) ∧ Below w.heap.size w w' := by
  by_cases h0 : n = 0
  · subst h0
    have hi : Lib.itoa 0 = [48] := by simp [Lib.itoa, Lib.decDigits]
    rw [hi]
    clear hi
    go_enter Tryd.func25, Tryd.ntmps25
    go_wp2
    go_ret
    exact ⟨rfl, Below.refl _ _⟩
  · by_cases hneg : n < 0
    · obtain ⟨m0, rfl⟩ : ∃ m : Nat, n = -(m : Int) := ⟨n.natAbs, by omega⟩
      have d1 : (-(m0 : Int) == 0) = false := by simpa using h0
      have d2 : decide (-(m0 : Int) < 0) = true := decide_eq_true hneg
      have d3 : -(m0 : Int) < 0 := hneg
      have w1 : IntKind.u64.wrap (-(m0 : Int)) = 18446744073709551616 - m0 := by
        have := hn.1
        simp [IntKind.wrap, IntKind.signed, IntKind.bits]
        omega
      have w2 : IntKind.u64.wrap (-(18446744073709551616 - (m0 : Int))) = m0 := by
        have := hn.1
        simp [IntKind.wrap, IntKind.signed, IntKind.bits]
        omega
      have HM := Lib.hid (show m0 ≤ 9223372036854775808 by have := hn.1; omega)
      have HP := Lib.hid (show m0 ≠ 0 by omega)
      have HI := Lib.hid (show Lib.itoa (-(m0 : Int)) = 45 :: Lib.decDigits m0 by unfold Lib.itoa; rw [if_pos d3, Int.natAbs_neg]; rfl)
      have HL := Lib.hid (show (Lib.decDigits m0).length ≤ 21 by have h := itoa_len hn; rw [HI.out, List.length_cons] at h; omega)
      go_enter Tryd.func25, Tryd.ntmps25
      go_upto_region 7 with fail
      clear d1 w1 w2 h0 hn
      go_loopw [3, 4] (fun ov uv wr => ∃ (m : Nat) (out : Str), ov = strV out ∧ uv = .int .u64 m ∧ m ≤ 9223372036854775808 ∧ digs m ++ out = Lib.decDigits m0 ∧ Below w.heap.size w wr) (fun _ uv _ => (intOf uv).toNat)
      case atStart => exact ⟨m0, [], rfl, rfl, HM.out, by rw [List.append_nil]; exact digs_pos HP.out, Below.refl _ w⟩
      case round =>
        obtain ⟨m, out, rfl, rfl, hm, hdg, hbl⟩ := hrel
        have BL := Lib.hid hbl
        have DG := Lib.hid hdg
        have hz := hbl.size
        have hol : out.length ≤ 21 := by have h := congrArg List.length hdg; have := HL.out; rw [List.length_append] at h; omega
        have hol2 : ¬ 9223372036854775807 < 1 + out.length := by omega
        clear hbl hdg
        by_cases hm0 : m = 0
        · subst hm0
          have DD := Lib.hid (show out = Lib.decDigits m0 from DG.out)
          have hol3 : ¬ 9223372036854775807 < 1 + out.length := by omega
          go_wp2_with fail
          go_ret
          refine ⟨?_, BL.out⟩
          rw [HI.out, ← DD.out]
          exact congrArg (fun z => Ending.returned (Value.string z)) (str_cat [45] out)
        · obtain ⟨d, hd⟩ : ∃ d, m % 10 = d := ⟨_, rfl⟩
          have hd10 : d < 10 := by omega
          have e1 : decide ((0 : Int) < (m : Int)) = true := decide_eq_true (by omega)
          have e2 : (0 : Int) < (m : Int) := by omega
          have e3 : (m : Int).tmod 10 = (d : Int) := by rw [Int.tmod_eq_emod_of_nonneg (by omega)]; omega
          have e3' : (m : Int) % 10 = (d : Int) := by omega
          have e4 : IntKind.u64.wrap (48 + (d : Int)) = 48 + d := by simp [IntKind.wrap, IntKind.signed, IntKind.bits]; omega
          have e5 : IntKind.u8.wrap (48 + (d : Int)) = 48 + d := by simp [IntKind.wrap, IntKind.signed, IntKind.bits]; omega
          have e6 : (m : Int).tdiv 10 = ((m / 10 : Nat) : Int) := by rw [Int.tdiv_eq_ediv_of_nonneg (by omega)]; omega
          have HD := Lib.hid hd
          obtain ⟨ch, hch⟩ : ∃ ch, UInt8.ofNat (48 + d) = ch := ⟨_, rfl⟩
          have hcv : (convert 22 9 (.slice (some ⟨wr.heap.size, 0, none⟩) 1 1)).run Tryd.prog (wr.alloc (.cells #[.int .u8 (48 + (d : Int))] 5)) = .ok (strV [ch]) (wr.alloc (.cells #[.int .u8 (48 + (d : Int))] 5)) := by
            have h := arg_str (c := 1) (lit_bytes wr [UInt8.ofNat (48 + d)])
            have e : (byteVals [UInt8.ofNat (48 + d)]).toArray = #[.int .u8 (48 + (d : Int))] := by
              have e2 : (UInt8.ofNat (48 + d)).toNat = 48 + d := by rw [UInt8.toNat_ofNat']; omega
              simp only [byteVals, List.map_cons, List.map_nil, e2]
              rfl
            rw [e, hch] at h
            exact h
          have ND := Lib.hid (digs_step hm0)
          have HCH := Lib.hid hch
          clear hd hm0 hch
          go_wp2_with fail
          refine ⟨⟨m / 10, ch :: out, ?_, by simp, by omega, ?_, BL.out.alloc hz _⟩, ?_⟩
          · rw [strV, str_cat]
            rfl
          · rw [← DG.out, ND.out, HD.out, HCH.out, List.append_assoc]
            rfl
          · simp only [intOf]
            omega
    · obtain ⟨m0, rfl⟩ : ∃ m : Nat, n = m := ⟨n.toNat, by omega⟩
      have d1 : ((m0 : Int) == 0) = false := by simpa using h0
      have d2 : decide ((m0 : Int) < 0) = false := by simp
      have d3 : ¬ (m0 : Int) < 0 := by omega
      have w1 : IntKind.u64.wrap (m0 : Int) = m0 := by
        have := hn.2
        simp [IntKind.wrap, IntKind.signed, IntKind.bits]
        omega
      have HM := Lib.hid (show m0 ≤ 9223372036854775808 by have := hn.2; omega)
      have HP := Lib.hid (show m0 ≠ 0 by omega)
      have HL := Lib.hid (show (Lib.decDigits m0).length ≤ 21 by have h := itoa_len hn; unfold Lib.itoa at h; rw [if_neg d3] at h; exact h)
      have HI := Lib.hid (show Lib.itoa (m0 : Int) = Lib.decDigits m0 by unfold Lib.itoa; rw [if_neg d3]; rfl)
      go_enter Tryd.func25, Tryd.ntmps25
      go_upto_region 7 with fail
      clear d1 w1 h0 hn
      go_loopw [3, 4] (fun ov uv wr => ∃ (m : Nat) (out : Str), ov = strV out ∧ uv = .int .u64 m ∧ m ≤ 9223372036854775808 ∧ digs m ++ out = Lib.decDigits m0 ∧ Below w.heap.size w wr) (fun _ uv _ => (intOf uv).toNat)
      case atStart => exact ⟨m0, [], rfl, rfl, HM.out, by rw [List.append_nil]; exact digs_pos HP.out, Below.refl _ w⟩
      case round =>
        obtain ⟨m, out, rfl, rfl, hm, hdg, hbl⟩ := hrel
        have BL := Lib.hid hbl
        have DG := Lib.hid hdg
        have hz := hbl.size
        have hol : out.length ≤ 21 := by have h := congrArg List.length hdg; have := HL.out; rw [List.length_append] at h; omega
        have hol2 : ¬ 9223372036854775807 < 1 + out.length := by omega
        clear hbl hdg
        by_cases hm0 : m = 0
        · subst hm0
          have DD := Lib.hid (show out = Lib.decDigits m0 from DG.out)
          go_wp2_with fail
          go_ret
          rw [HI.out, ← DD.out]
          exact ⟨rfl, BL.out⟩
        · obtain ⟨d, hd⟩ : ∃ d, m % 10 = d := ⟨_, rfl⟩
          have hd10 : d < 10 := by omega
          have e1 : decide ((0 : Int) < (m : Int)) = true := decide_eq_true (by omega)
          have e2 : (0 : Int) < (m : Int) := by omega
          have e3 : (m : Int).tmod 10 = (d : Int) := by rw [Int.tmod_eq_emod_of_nonneg (by omega)]; omega
          have e3' : (m : Int) % 10 = (d : Int) := by omega
          have e4 : IntKind.u64.wrap (48 + (d : Int)) = 48 + d := by simp [IntKind.wrap, IntKind.signed, IntKind.bits]; omega
          have e5 : IntKind.u8.wrap (48 + (d : Int)) = 48 + d := by simp [IntKind.wrap, IntKind.signed, IntKind.bits]; omega
          have e6 : (m : Int).tdiv 10 = ((m / 10 : Nat) : Int) := by rw [Int.tdiv_eq_ediv_of_nonneg (by omega)]; omega
          have HD := Lib.hid hd
          obtain ⟨ch, hch⟩ : ∃ ch, UInt8.ofNat (48 + d) = ch := ⟨_, rfl⟩
          have hcv : (convert 22 9 (.slice (some ⟨wr.heap.size, 0, none⟩) 1 1)).run Tryd.prog (wr.alloc (.cells #[.int .u8 (48 + (d : Int))] 5)) = .ok (strV [ch]) (wr.alloc (.cells #[.int .u8 (48 + (d : Int))] 5)) := by
            have h := arg_str (c := 1) (lit_bytes wr [UInt8.ofNat (48 + d)])
            have e : (byteVals [UInt8.ofNat (48 + d)]).toArray = #[.int .u8 (48 + (d : Int))] := by
              have e2 : (UInt8.ofNat (48 + d)).toNat = 48 + d := by rw [UInt8.toNat_ofNat']; omega
              simp only [byteVals, List.map_cons, List.map_nil, e2]
              rfl
            rw [e, hch] at h
            exact h
          have ND := Lib.hid (digs_step hm0)
          have HCH := Lib.hid hch
          clear hd hm0 hch
          go_wp2_with fail
          refine ⟨⟨m / 10, ch :: out, ?_, by simp, by omega, ?_, BL.out.alloc hz _⟩, ?_⟩
          · rw [strV, str_cat]
            rfl
          · rw [← DG.out, ND.out, HD.out, HCH.out, List.append_assoc]
            rfl
          · simp only [intOf]
            omega
end Go.Proofs.YtkkmojbaoflafaaDoor
