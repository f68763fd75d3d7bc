/- The law CartLost returns true on values. No condition beyond those that each theorem states. -/
import Derived.Test.YtiiilimmjoadeaaCc2
import Derived.Deep.DeepCutAuto
import Derived.Deep.CutBlock
namespace Go.Proofs.Ytiiilimmjoadeaa
open Go.RowKit

/-- Where a slice of rows of bytes lies: it is empty, or each cell is a row. -/
def RowsIn (w : World) (A : Option Addr) (n : Nat) (F : Nat → Option Addr × Nat × Nat × List UInt8) : Prop := n = 0 ∨ ∃ b off, A = some ⟨b, off, none⟩ ∧ b < w.heap.size ∧ ∀ i, i < n → RowIn w ⟨b, off + i, none⟩ (F i)

theorem rowsIn_of {w : World} {A : Option Addr} {n : Nat} (h : n = 0 ∨ ∃ b off, A = some ⟨b, off, none⟩ ∧ b < w.heap.size ∧ ∃ F : Nat → Option Addr × Nat × Nat × List UInt8, ∀ i, i < n → RowIn w ⟨b, off + i, none⟩ (F i)) : ∃ F, RowsIn w A n F := by
  rcases h with h | ⟨b, off, h1, h2, F, h3⟩
  · exact ⟨fun _ => (none, 0, 0, []), .inl h⟩
  · exact ⟨F, .inr ⟨b, off, h1, h2, h3⟩⟩

theorem appendM_lost {M : Recs} {most : Int} {l : List UInt8} (h1 : 1 ≤ l.length) (h2 : l.length ≤ 256) : appendM M most true l = (0, 9, M) := by
  unfold appendM
  rw [if_neg (by omega), if_pos rfl]

set_option maxRecDepth 100000 in
set_option maxHeartbeats 4000000 in
theorem cartLost_walk (A : Option Addr) (n c : Nat) (F : Nat → Option Addr × Nat × Nat × List UInt8) (kk : Int) (B : Option Addr) (m d : Nat) (lb : List UInt8) (w : World) (hF : RowsIn w A n F) (hb : BytesIn w B m lb) (hn : n ≤ c) (hc : c ≤ maxLen) (hmd : m ≤ d) (hd : d ≤ maxLen) :
    Calls Try.prog 7 #[.slice A n c, .int .i64 kk, .slice B m d] w fun e w' => e = .returned (.bool true) ∧ Below w.heap.size w w' := by
  have HF := Lib.hid hF
  have HB := Lib.hid hb
  have hlm := hb.1
  have hm2 : m ≤ 9223372036854775807 := by simp only [maxLen] at hd; omega
  have hn2 : n ≤ 9223372036854775807 := by simp only [maxLen] at hc; omega
  have HLM := Lib.hid hlm
  clear hF hb hlm hd hc
  go_enter Try.func7, Try.ntmps7
  go_wp2_with fail
  refine (pNew 50 _).mono ?_
  rintro e w1 ⟨p, rfl, h1, _⟩
  have P1 := Lib.hid (show Priv w w1 p [] 50 false from h1)
  clear h1
  go_upto_block 0 with fail
  go_cut [8] (fun s8 wx => ∃ M : Recs, s8 = .int .i64 M.length ∧ M.length ≤ 40 ∧ Priv w wx p M 50 false)
  case first =>
    go_wp2_with fail
    go_loopw [8, 9] (fun v i wr => ∃ (k : Nat) (M : Recs), k ≤ n ∧ k ≤ 40 ∧ M.length ≤ k ∧ i = .int .i64 k ∧ v = .int .i64 M.length ∧ Priv w wr p M 50 false) (fun _ i _ => 40 - (intOf i).toNat)
    case atStart => exact ⟨0, [], by omega, by omega, by simp, rfl, rfl, P1.out⟩
    case round =>
      obtain ⟨k, M, hk, hk40, hM, rfl, rfl, hK⟩ := hrel
      by_cases hlt : k < n
      · by_cases hlt40 : k < 40
        · obtain ⟨b, off, rfl, hbw, hF⟩ := HF.out.resolve_left (by omega)
          obtain ⟨hcell, hrn, hrc, hrb, hrA, _⟩ := hF k hlt
          have hbl := hK.base
          have hbw' : b < wr.heap.size := Nat.lt_of_lt_of_le hbw hbl.size
          have hcell' : wr.cell? ⟨b, off + k, none⟩ = some (.slice (F k).1 (F k).2.1 (F k).2.2.1) := (hbl.cell (p := ⟨b, off + k, none⟩) hbw).trans hcell
          have PK := Lib.hid hK
          have RB := Lib.hid hrb
          clear hK hrb hrA hbl hF hcell
          generalize (F k).1 = A at *
          generalize (F k).2.1 = q at *
          generalize (F k).2.2.1 = qc at *
          generalize (F k).2.2.2 = l at *
          have d1 : decide (k < n) = true := by simpa using hlt
          have d2 : decide (k < 40) = true := by simpa using hlt40
          go_wp2_with fail
          refine (pAppend w p M 50 false A q qc l _ PK.out (RB.out.below PK.out.base)).mono ?_
          rintro e w3 ⟨rfl, h1, k3⟩
          by_cases hbad : l.length = 0 ∨ 256 < l.length
          · rw [appendM_bad hbad] at h1 ⊢
            have P3 := Lib.hid h1
            clear h1 k3 hcell' hbad
            go_wp2_with fail
            go_roundw
            case rel => exact ⟨k + 1, M, hlt, hlt40, by omega, by go_num, rfl, P3.out⟩
            case measure => simp [intOf]; omega
          · rw [appendM_ok (by omega) (by omega) (show (M.length : Int) < 50 by omega)] at h1 ⊢
            have P3 := Lib.hid (show Priv w w3 p (M ++ [(l, false)]) 50 false from h1)
            clear h1 k3 hcell' hbad
            go_wp2_with fail
            go_roundw
            case rel => exact ⟨k + 1, M ++ [(l, false)], hlt, hlt40, by simp; omega, by go_num, by simp, P3.out⟩
            case measure => simp [intOf]; omega
        · have PK := Lib.hid hK
          clear hK
          have d1 : decide (k < n) = true := by simpa using hlt
          have d2 : decide (k < 40) = false := by simpa using hlt40
          go_wp2_with fail
          go_meet
          exact ⟨M, rfl, by omega, PK.out⟩
      · have PK := Lib.hid hK
        clear hK
        have d1 : decide (k < n) = false := by simpa using hlt
        go_wp2_with fail
        go_meet
        exact ⟨M, rfl, by omega, PK.out⟩
  case rest =>
    obtain ⟨M, rfl, hM, h1⟩ := hcut
    have P2 := Lib.hid h1
    clear h1
    go_wp2_with fail
    refine (pLost w p M 50 false _ P2.out).mono ?_
    rintro e w3 ⟨rfl, rfl⟩
    go_wp2_with fail
    refine (pLose w p M 50 false _ P2.out).mono ?_
    rintro e w3 ⟨rfl, h1, _⟩
    have P3 := Lib.hid h1
    clear h1
    simp only [Bool.not_false]
    go_wp2_with fail
    refine (pLost w p M 50 true _ P3.out).mono ?_
    rintro e w4 ⟨rfl, rfl⟩
    go_wp2_with fail
    refine (pLose w p M 50 true _ P3.out).mono ?_
    rintro e w4 ⟨rfl, h1, _⟩
    have P4 := Lib.hid h1
    clear h1
    simp only [Bool.not_true]
    go_wp2_with fail
    refine (pRead w p M 50 true kk _ P4.out).mono ?_
    rintro e w5 ⟨v, rfl, ho, h1, _⟩
    have P5 := Lib.hid h1
    simp only [show readM M true kk = ([], 9) from rfl] at ho ⊢
    obtain ⟨A5, c5, rfl, -, -⟩ := ho.bytesIn
    clear h1 ho
    go_wp2_with fail
    refine (pAppend w p M 50 true B m d lb _ P5.out (HB.out.below P5.out.base)).mono ?_
    rintro e w6 ⟨rfl, h1, _⟩
    by_cases hbad : lb.length = 0 ∨ 256 < lb.length
    · rw [appendM_bad hbad] at h1 ⊢
      rw [HLM.out] at hbad
      rcases hbad with hq | hq
      · have d3 : decide (m < 1) = true := by simp; omega
        have P7 := Lib.hid h1
        clear h1
        go_wp2_with fail
        refine (awake07 _).mono ?_
        rintro e w8 ⟨rfl, hb8⟩
        have P8 := Lib.hid (P7.out.below hb8)
        clear hb8
        go_wp2_with fail
        refine (pRot w p M 50 true kk _ P8.out).mono ?_
        rintro e w9 ⟨rfl, h1, _⟩
        have P9 := Lib.hid (show Priv w w9 p M 50 true from h1)
        clear h1
        simp only [show (rotM M true kk).1 = false from rfl]
        go_wp2_with fail
        refine (pTear w p M 50 true kk _ P9.out).mono ?_
        rintro e w10 ⟨rfl, h1, _⟩
        have P10 := Lib.hid (show Priv w w10 p M 50 true from h1)
        clear h1
        simp only [show (tearM M true kk).1 = false from rfl]
        go_wp2_with fail
        refine (pLen w p M 50 true _ P10.out).mono ?_
        rintro e w11 ⟨rfl, rfl⟩
        go_wp2_with fail
        refine (pRoom w p M 50 true _ P10.out).mono ?_
        rintro e w11 ⟨rfl, nn, rfl⟩
        simp only [if_true]
        go_wp2_with fail
        go_ret
        exact ⟨rfl, below_drewN P10.out.base nn⟩
      · have d3 : decide (m < 1) = false := by simp; omega
        have d4 : decide (256 < m) = true := by simp; omega
        have P7 := Lib.hid h1
        clear h1
        go_wp2_with fail
        refine (awake07 _).mono ?_
        rintro e w8 ⟨rfl, hb8⟩
        have P8 := Lib.hid (P7.out.below hb8)
        clear hb8
        go_wp2_with fail
        refine (pRot w p M 50 true kk _ P8.out).mono ?_
        rintro e w9 ⟨rfl, h1, _⟩
        have P9 := Lib.hid (show Priv w w9 p M 50 true from h1)
        clear h1
        simp only [show (rotM M true kk).1 = false from rfl]
        go_wp2_with fail
        refine (pTear w p M 50 true kk _ P9.out).mono ?_
        rintro e w10 ⟨rfl, h1, _⟩
        have P10 := Lib.hid (show Priv w w10 p M 50 true from h1)
        clear h1
        simp only [show (tearM M true kk).1 = false from rfl]
        go_wp2_with fail
        refine (pLen w p M 50 true _ P10.out).mono ?_
        rintro e w11 ⟨rfl, rfl⟩
        go_wp2_with fail
        refine (pRoom w p M 50 true _ P10.out).mono ?_
        rintro e w11 ⟨rfl, nn, rfl⟩
        simp only [if_true]
        go_wp2_with fail
        go_ret
        exact ⟨rfl, below_drewN P10.out.base nn⟩
    · rw [appendM_lost (by omega) (by omega)] at h1 ⊢
      rw [HLM.out] at hbad
      have d3 : decide (m < 1) = false := by simp; omega
      have d4 : decide (256 < m) = false := by simp; omega
      have P7 := Lib.hid h1
      clear h1
      go_wp2_with fail
      refine (awake07 _).mono ?_
      rintro e w8 ⟨rfl, hb8⟩
      have P8 := Lib.hid (P7.out.below hb8)
      clear hb8
      go_wp2_with fail
      refine (pRot w p M 50 true kk _ P8.out).mono ?_
      rintro e w9 ⟨rfl, h1, _⟩
      have P9 := Lib.hid (show Priv w w9 p M 50 true from h1)
      clear h1
      simp only [show (rotM M true kk).1 = false from rfl]
      go_wp2_with fail
      refine (pTear w p M 50 true kk _ P9.out).mono ?_
      rintro e w10 ⟨rfl, h1, _⟩
      have P10 := Lib.hid (show Priv w w10 p M 50 true from h1)
      clear h1
      simp only [show (tearM M true kk).1 = false from rfl]
      go_wp2_with fail
      refine (pLen w p M 50 true _ P10.out).mono ?_
      rintro e w11 ⟨rfl, rfl⟩
      go_wp2_with fail
      refine (pRoom w p M 50 true _ P10.out).mono ?_
      rintro e w11 ⟨rfl, nn, rfl⟩
      simp only [if_true]
      go_wp2_with fail
      go_ret
      exact ⟨rfl, below_drewN P10.out.base nn⟩
end Go.Proofs.Ytiiilimmjoadeaa
