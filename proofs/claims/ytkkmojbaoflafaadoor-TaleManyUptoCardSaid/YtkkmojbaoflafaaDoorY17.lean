/- The document's words, its digit of sixteen. No condition beyond those that each theorem states. -/
import Derived.Test.YtkkmojbaoflafaaDoorY12
namespace Go.Proofs.YtkkmojbaoflafaaDoor
open Go.RowKit Go.Shelf
attribute [local go_sem] Oper.semAt_some

def wordsL : List Str := [] :: formsT.map (·.1)
def hassL : List Str := [] :: formsT.map (·.2)
theorem words_get {k : Nat} {f : Str × Str} (h : formsT[k]? = some f) : wordsL[k + 1]? = some f.1 ∧ hassL[k + 1]? = some f.2 := by simp [wordsL, hassL, h]
theorem words_vals : (wordsL.map strV).toArray = #[.string ⟨#[]⟩, .string ⟨#[112, 117, 116]⟩, .string ⟨#[114, 101, 99, 97, 108, 108]⟩, .string ⟨#[112, 111, 108, 108]⟩, .string ⟨#[102, 101, 116, 99, 104]⟩, .string ⟨#[100, 101, 108, 101, 116, 101]⟩, .string ⟨#[116, 105, 99, 107]⟩, .string ⟨#[99, 97, 114, 101]⟩, .string ⟨#[114, 101, 116, 105, 114, 101]⟩, .string ⟨#[108, 105, 115, 116]⟩, .string ⟨#[115, 116, 97, 116, 117, 115]⟩, .string ⟨#[114, 111, 116]⟩, .string ⟨#[108, 111, 115, 101]⟩, .string ⟨#[98, 114, 101, 97, 107]⟩, .string ⟨#[109, 101, 110, 100]⟩, .string ⟨#[97, 100, 100]⟩, .string ⟨#[102, 117, 115, 101]⟩, .string ⟨#[99, 114, 97, 115, 104]⟩, .string ⟨#[111, 112, 101, 110]⟩, .string ⟨#[119, 105, 112, 101]⟩] := by rfl
theorem hass_vals : (hassL.map strV).toArray = #[.string ⟨#[]⟩, .string ⟨#[107, 100]⟩, .string ⟨#[107]⟩, .string ⟨#[97]⟩, .string ⟨#[97]⟩, .string ⟨#[107]⟩, .string ⟨#[]⟩, .string ⟨#[]⟩, .string ⟨#[97]⟩, .string ⟨#[]⟩, .string ⟨#[107]⟩, .string ⟨#[97, 98]⟩, .string ⟨#[97]⟩, .string ⟨#[97]⟩, .string ⟨#[97]⟩, .string ⟨#[]⟩, .string ⟨#[97]⟩, .string ⟨#[97, 98]⟩, .string ⟨#[]⟩, .string ⟨#[]⟩] := by rfl
set_option maxHeartbeats 4000000 in
theorem rWord (k : Nat) (a b : Str) (ha : wordsL[k]? = some a) (hb : hassL[k]? = some b) (w : World) : Calls Tryd.prog 22 #[.int .i64 k] w fun e w' => e = .returned (.tuple #[strV a, strV b]) ∧ Below w.heap.size w w' := by
  have hk : k < 20 := (List.getElem?_eq_some_iff.1 ha).1
  go_enter Tryd.func22, Tryd.ntmps22
  go_upto_region 3 with fail
  obtain ⟨w2, hw2⟩ : ∃ v, (w.alloc (.cells #[.string ⟨#[]⟩, .string ⟨#[112, 117, 116]⟩, .string ⟨#[114, 101, 99, 97, 108, 108]⟩, .string ⟨#[112, 111, 108, 108]⟩, .string ⟨#[102, 101, 116, 99, 104]⟩, .string ⟨#[100, 101, 108, 101, 116, 101]⟩, .string ⟨#[116, 105, 99, 107]⟩, .string ⟨#[99, 97, 114, 101]⟩, .string ⟨#[114, 101, 116, 105, 114, 101]⟩, .string ⟨#[108, 105, 115, 116]⟩, .string ⟨#[115, 116, 97, 116, 117, 115]⟩, .string ⟨#[114, 111, 116]⟩, .string ⟨#[108, 111, 115, 101]⟩, .string ⟨#[98, 114, 101, 97, 107]⟩, .string ⟨#[109, 101, 110, 100]⟩, .string ⟨#[97, 100, 100]⟩, .string ⟨#[102, 117, 115, 101]⟩, .string ⟨#[99, 114, 97, 115, 104]⟩, .string ⟨#[111, 112, 101, 110]⟩, .string ⟨#[119, 105, 112, 101]⟩] 9)).alloc (.cells #[.string ⟨#[]⟩, .string ⟨#[107, 100]⟩, .string ⟨#[107]⟩, .string ⟨#[97]⟩, .string ⟨#[97]⟩, .string ⟨#[107]⟩, .string ⟨#[]⟩, .string ⟨#[]⟩, .string ⟨#[97]⟩, .string ⟨#[]⟩, .string ⟨#[107]⟩, .string ⟨#[97, 98]⟩, .string ⟨#[97]⟩, .string ⟨#[97]⟩, .string ⟨#[97]⟩, .string ⟨#[]⟩, .string ⟨#[97]⟩, .string ⟨#[97, 98]⟩, .string ⟨#[]⟩, .string ⟨#[]⟩] 9) = v := ⟨_, rfl⟩
  have B2 := Lib.hid (show Below w.heap.size w w2 by rw [← hw2]; exact ((Below.refl _ w).alloc (Nat.le_refl _) _).alloc (by simp) _)
  have k1 : w2.cell? ⟨w.heap.size, k, none⟩ = some (strV a) := by
    rw [← hw2, ← words_vals]
    exact (((Blk.made w 9 _).alloc _).cell k).trans (by simp [ha])
  have k2 : w2.cell? ⟨w.heap.size + 1, k, none⟩ = some (strV b) := by
    rw [← hw2, ← hass_vals]
    exact ((Blk.made' _ 9 _ (by simp)).cell k).trans (by simp [hb])
  rw [hw2]
  clear hw2 ha hb
  have g1 : (0 : Int) ≤ (k : Int) := by omega
  have g2 : (k : Int) < 20 := by omega
  go_quiet (fail)
  go_wp2_with fail
  go_ret2
  exact ⟨rfl, below_drewN B2.out _⟩
theorem rDigit (c : UInt8) (w : World) : Calls Tryd.prog 43 #[.int .u8 (c.toNat : Int)] w fun e w' => e = .returned (.int .i64 (unI c)) ∧ w = w' := by
  obtain ⟨n, hn⟩ : ∃ n, c.toNat = n := ⟨_, rfl⟩
  have hn2 : n < 256 := by rw [← hn]; exact c.toNat_lt
  rw [hn]
  by_cases h1 : 48 ≤ n
  · have a1 : decide ((48 : Int) ≤ (n : Int)) = true := decide_eq_true (by omega)
    have a2 : (48 : Int) ≤ (n : Int) := by omega
    by_cases h2 : n ≤ 57
    · have u : unI c = (n : Int) - 48 := by
        unfold unI unD
        rw [hn, if_pos ⟨h1, h2⟩]
        show ((n - 48 : Nat) : Int) = _
        omega
      have HU := Lib.hid u
      have b1 : decide ((n : Int) ≤ 57) = true := decide_eq_true (by omega)
      have b2 : (n : Int) ≤ 57 := by omega
      have c1 : IntKind.u8.wrap ((n : Int) - 48) = (n : Int) - 48 := by simp [IntKind.wrap, IntKind.signed, IntKind.bits]; omega
      have c2 : IntKind.i64.wrap ((n : Int) - 48) = (n : Int) - 48 := IntWalk.i64_in _ (by omega)
      clear u hn h1 h2
      go_enter Tryd.func43, Tryd.ntmps43
      go_wp2_with fail
      go_ret
      rw [HU.out]
      exact ⟨rfl, rfl⟩
    · have b1 : decide ((n : Int) ≤ 57) = false := decide_eq_false (by omega)
      have b2 : ¬ (n : Int) ≤ 57 := by omega
      by_cases h3 : 97 ≤ n
      · have c1 : decide ((97 : Int) ≤ (n : Int)) = true := decide_eq_true (by omega)
        have c2 : (97 : Int) ≤ (n : Int) := by omega
        by_cases h4 : n ≤ 102
        · have u : unI c = (n : Int) - 97 + 10 := by
            unfold unI unD
            rw [hn, if_neg (by omega), if_pos ⟨h3, h4⟩]
            show ((n - 87 : Nat) : Int) = _
            omega
          have HU := Lib.hid u
          have e1 : decide ((n : Int) ≤ 102) = true := decide_eq_true (by omega)
          have e2 : (n : Int) ≤ 102 := by omega
          have f1 : IntKind.u8.wrap ((n : Int) - 97) = (n : Int) - 97 := by simp [IntKind.wrap, IntKind.signed, IntKind.bits]; omega
          have f2 : IntKind.i64.wrap ((n : Int) - 97) = (n : Int) - 97 := IntWalk.i64_in _ (by omega)
          have f3 : IntKind.i64.wrap ((n : Int) - 97 + 10) = (n : Int) - 97 + 10 := IntWalk.i64_in _ (by omega)
          clear u hn h1 h2 h3 h4
          go_enter Tryd.func43, Tryd.ntmps43
          go_wp2_with fail
          go_ret
          rw [HU.out]
          exact ⟨rfl, rfl⟩
        · have u : unI c = -1 := by
            unfold unI unD
            rw [hn, if_neg (by omega), if_neg (by omega)]
          have HU := Lib.hid u
          have e1 : decide ((n : Int) ≤ 102) = false := decide_eq_false (by omega)
          have e2 : ¬ (n : Int) ≤ 102 := by omega
          clear u hn h1 h2 h3 h4
          go_enter Tryd.func43, Tryd.ntmps43
          go_wp2_with fail
          go_ret
          rw [HU.out]
          exact ⟨rfl, rfl⟩
      · have u : unI c = -1 := by
          unfold unI unD
          rw [hn, if_neg (by omega), if_neg (by omega)]
        have HU := Lib.hid u
        have c1 : decide ((97 : Int) ≤ (n : Int)) = false := decide_eq_false (by omega)
        have c2 : ¬ (97 : Int) ≤ (n : Int) := by omega
        clear u hn h1 h2 h3
        go_enter Tryd.func43, Tryd.ntmps43
        go_wp2_with fail
        go_ret
        rw [HU.out]
        exact ⟨rfl, rfl⟩
  · have u : unI c = -1 := by
      unfold unI unD
      rw [hn, if_neg (by omega), if_neg (by omega)]
    have HU := Lib.hid u
    have a1 : decide ((48 : Int) ≤ (n : Int)) = false := decide_eq_false (by omega)
    have a2 : ¬ (48 : Int) ≤ (n : Int) := by omega
    have c1 : decide ((97 : Int) ≤ (n : Int)) = false := decide_eq_false (by omega)
    have c2 : ¬ (97 : Int) ≤ (n : Int) := by omega
    clear u hn h1
    go_enter Tryd.func43, Tryd.ntmps43
    go_wp2_with fail
    go_ret
    rw [HU.out]
    exact ⟨rfl, rfl⟩
end Go.Proofs.YtkkmojbaoflafaaDoor
