/- Numbers and texts as bytes (package word). No condition beyond those that each theorem states. -/
import Derived.Test.YtgkgieemdjbhpaaMA1
import Derived.Lib.AppendStr
import Derived.Deep.DeepCutAuto
import Derived.Deep.CutBlock
import Derived.Sort.EncStr
namespace Go.Proofs.Ytgkgieemdjbhpaa
open Go.RowKit

/-- The bytes of a number below 16384. -/
def numW (N : Nat) : List UInt8 := if N < 128 then [UInt8.ofNat N] else [UInt8.ofNat (N % 128 + 128), UInt8.ofNat (N / 128)]
theorem numW_len (N : Nat) : (numW N).length = if N < 128 then 1 else 2 := by unfold numW; split <;> rfl
theorem u8_val {x : Nat} (h : x < 256) : (Value.int .u8 (x : Int)) = Value.int .u8 ((UInt8.ofNat x).toNat : Int) := by
  rw [UInt8.toNat_ofNat', Nat.mod_eq_of_lt h]
theorem byteVals_snoc (l : List UInt8) (x : UInt8) : byteVals (l ++ [x]) = byteVals l ++ [.int .u8 (x.toNat : Int)] := by simp [byteVals]
theorem byteVals_append (l k : List UInt8) : byteVals (l ++ k) = byteVals l ++ byteVals k := by simp [byteVals]
theorem or128 : ∀ x : Nat, x < 128 → bits BinOp.or IntKind.u8 (x : Int) 128 = ((x + 128 : Nat) : Int) := by
  have h : ∀ x : Fin 128, bits BinOp.or IntKind.u8 (x.val : Int) 128 = ((x.val + 128 : Nat) : Int) := by decide +kernel
  exact fun x hx => h ⟨x, hx⟩
theorem bytes_holds {w : World} {A : Option Addr} {n : Nat} {l : List UInt8} (h : BytesIn w A n l) : ∀ b, A = some b → ∀ j u, (byteVals l)[j]? = some u → w.cell? (b.add j) = some u := by
  intro b hb j u hu
  rcases h.2 with h0 | ⟨b', off, hA, _, hc⟩
  · have hl : l = [] := List.eq_nil_of_length_eq_zero (by rw [h.1, h0])
    subst hl
    simp [byteVals] at hu
  · rw [hA] at hb
    cases hb
    rw [byteVals_get] at hu
    cases hx : l[j]? with
    | none => rw [hx] at hu; cases hu
    | some x =>
      rw [hx] at hu
      cases hu
      have := hc j x hx
      rw [add_plain]
      exact this
theorem own_base {w : World} {base b2 : Nat} {e : TypeId} {size n : Nat} {v : Value} {xs : List Value} (h : w.ownsRow base e size v n xs) (hb : b2 ≤ base) : w.ownsRow b2 e size v n xs := by
  obtain ⟨h1, h2⟩ := h
  exact ⟨h1, h2.imp id fun ⟨g, cap, cur, e, h3, h4⟩ => ⟨g, cap, cur, e, Nat.le_trans hb h3, h4⟩⟩
theorem new_cells (W : World) (t : TypeId) (v : Value) : ∀ j u, [v][j]? = some u → (W.alloc (.cells #[v] t)).cell? ((⟨W.heap.size, 0, none⟩ : Addr).add j) = some u := by
  intro j u hu
  cases j with
  | zero =>
    cases hu
    exact (Blk.made W t #[v]).cell 0
  | succ j => simp at hu
theorem bys_form {w : World} {base n : Nat} {v : Value} {xs : List Value} (h : w.ownsRow base 5 1 v n xs) (hn : 0 < n) : ∃ g cap, v = .slice (some ⟨g, 0, none⟩) n cap := by
  rcases h.2 with ⟨_, h0⟩ | ⟨g, cap, cur, e, _⟩
  · omega
  · exact ⟨g, cap, e⟩
theorem Bys.own_ge {w : World} {base : Nat} {B : Option Addr} {n c : Nat} {l : List UInt8} (h : Bys w base B n c l) {q : Nat} (hq : (Value.slice B n c).ownBlock = some q) : base ≤ q := (h.lt q hq).1
section
set_option maxHeartbeats 2000000
theorem wput (B : Option Addr) (m : Nat) (l : List UInt8) (N : Nat) (w : World) (hf : Form B m m) (h : BytesIn w B m l) (hm : m ≤ 100000000) (hN : N < 16384) :
    Calls Try.prog 44 #[.slice B m m, .int .i64 N] w fun e w' => ∃ B' m' c', e = .returned (.slice B' m' c') ∧ Bys w' w.heap.size B' m' c' (l ++ numW N) ∧ Below w.heap.size w w' := by
  obtain ⟨i0, hi0, hz0, hz1, hz2⟩ := info_parts byte_info
  have H := Lib.hid h
  have HF := Lib.hid hf
  have hmax : max (N : Int) 0 = (N : Int) := by omega
  have hw1 : (N : Int) % 18446744073709551616 = (N : Int) := by omega
  clear h hf
  by_cases h1 : N < 128
  · have d1 : decide ((128 : Int) ≤ N) = false := by simp; omega
    have hw2 : (N : Int) % 256 = (N : Int) := by omega
    go_enter Try.func44, Try.ntmps44
    go_wp2_with fail
    go_loopw [0, 5] (fun v u wx => v = .slice B m m ∧ u = .int .u64 N ∧ wx = w) (fun _ _ _ => 0)
    case atStart => exact ⟨rfl, rfl, rfl⟩
    case round =>
      obtain ⟨rfl, rfl, rfl⟩ := hrel
      · skip
        go_wp2_with (
          (at_builtin
           refine wpList_append_grows _ rfl (.tmp 20) (.tmp 23) 29 rfl 5 i0 _ 1 1 Try.underlying29 hi0 hz0 hz1 hz2 rfl (by omega) B m m (byteVals l) rfl (fun e => ⟨(HF.out.2.2 e).1, (HF.out.2.2 e).1⟩) (by rw [byteVals_length, H.out.1, Nat.mul_one]) (bytes_holds (by exact H.out.below ((Below.refl _ _).alloc (Nat.le_refl _) _))) ⟨wr.heap.size, 0, none⟩ 1 1 [.int .u8 (N : Int)] rfl rfl (by exact new_cells _ _ _) (by intro u hu; simp only [List.mem_cons, List.not_mem_nil, or_false] at hu; subst hu; rfl) (by omega) (by simp only [maxLen]; omega) (by omega) ?_
           intro v1 w1 hown hgr
           have OW := Lib.hid (own_base (b2 := wr.heap.size) hown (by simp))
           have GR := Lib.hid hgr
           clear hown hgr))
        go_ret
        obtain ⟨g, cap, rfl⟩ := bys_form OW.out (by omega)
        refine ⟨_, _, _, rfl, ?_, ((Below.refl wr.heap.size wr).alloc (by omega) _).grown GR.out (by simp) (fun q hq => by cases hq)⟩
        have h2 := OW.out
        unfold Bys
        unfold numW
        rw [if_pos h1, byteVals_snoc, ← u8_val (by omega)]
        exact h2
  · have d1 : decide ((128 : Int) ≤ N) = true := by simp; omega
    obtain ⟨q, r, hq, hr, hqI, hor, hq128, hr256⟩ : ∃ q r : Nat, N / 128 = q ∧ N % 128 + 128 = r ∧ (N : Int) / 128 = (q : Int) ∧ bits BinOp.or IntKind.u8 ((N : Int) % 128) 128 = (r : Int) ∧ q < 128 ∧ r < 256 := ⟨N / 128, N % 128 + 128, rfl, rfl, by omega, by rw [← or128 (N % 128) (by omega)]; congr 1, by omega, by omega⟩
    have hnum : numW N = [UInt8.ofNat r, UInt8.ofNat q] := by unfold numW; rw [if_neg h1, hq, hr]
    have HN := Lib.hid hnum
    have hNq : q < N := by omega
    clear hq hr hnum
    go_enter Try.func44, Try.ntmps44
    go_wp2_with fail
    go_loopw [0, 5] (fun v u wx => (v = .slice B m m ∧ u = .int .u64 N ∧ wx = w) ∨ ∃ g c1, v = .slice (some ⟨g, 0, none⟩) (m + 1) c1 ∧ u = .int .u64 (q : Int) ∧ Bys wx w.heap.size (some ⟨g, 0, none⟩) (m + 1) c1 (l ++ [UInt8.ofNat r]) ∧ Below w.heap.size w wx) (fun _ u _ => (intOf u).toNat)
    case atStart => exact .inl ⟨rfl, rfl, rfl⟩
    case round =>
      rcases hrel with ⟨rfl, rfl, rfl⟩ | ⟨g, c1, rfl, rfl, hby, hbe⟩
      · skip
        go_wp2_with (
          (at_builtin
           refine wpList_append_grows _ rfl (.tmp 11) (.tmp 16) 29 rfl 5 i0 _ 1 1 Try.underlying29 hi0 hz0 hz1 hz2 rfl (by omega) B m m (byteVals l) rfl (fun e => ⟨(HF.out.2.2 e).1, (HF.out.2.2 e).1⟩) (by rw [byteVals_length, H.out.1, Nat.mul_one]) (bytes_holds (by exact H.out.below ((Below.refl _ _).alloc (Nat.le_refl _) _))) ⟨wr.heap.size, 0, none⟩ 1 1 [.int .u8 (r : Int)] rfl rfl (by exact new_cells _ _ _) (by intro u hu; simp only [List.mem_cons, List.not_mem_nil, or_false] at hu; subst hu; rfl) (by omega) (by simp only [maxLen]; omega) (by omega) ?_
           intro v1 w1 hown hgr
           have OW := Lib.hid (own_base (b2 := wr.heap.size) hown (by simp))
           have GR := Lib.hid hgr
           clear hown hgr))
        obtain ⟨g2, cap, rfl⟩ := bys_form OW.out (by omega)
        go_roundw
        case rel => exact .inr ⟨g2, cap, rfl, rfl, by
          have h2 := OW.out
          unfold Bys
          rw [byteVals_snoc, ← u8_val hr256]
          exact h2, ((Below.refl wr.heap.size wr).alloc (by omega) _).grown GR.out (by simp) (fun y hy => by cases hy)⟩
        case measure => simp [intOf]; omega
      · have H1 := Lib.hid hby
        have HB1 := Lib.hid hbe
        have hz := hbe.size
        clear hby hbe
        have d2 : decide ((128 : Int) ≤ (q : Int)) = false := by simp; omega
        have hw3 : (q : Int) % 256 = (q : Int) := by omega
        go_wp2_with (
          (at_builtin
           refine wpList_append_form _ rfl (.tmp 20) (.tmp 23) 29 rfl w.heap.size 5 i0 _ 1 1 Try.underlying29 hi0 hz0 hz1 hz2 rfl (by omega) _ (m + 1) (byteVals (l ++ [UInt8.ofNat r])) rfl (by exact H1.out.alloc _) (some ⟨wr.heap.size, 0, none⟩) 1 1 [.int .u8 (q : Int)] rfl rfl (fun e => by cases e) (by exact src_new _ _ _ _) (by intro u hu; simp only [List.mem_cons, List.not_mem_nil, or_false] at hu; subst hu; rfl) (by omega) (by simp only [maxLen]; omega) (by omega) (by simp; omega) ?_
           intro g2 cap w1 hown hgr hat hlt
           have OW := Lib.hid hown
           have GR := Lib.hid hgr
           clear hown hgr hat))
        go_ret
        refine ⟨_, _, _, rfl, ?_, HB1.out.trans (((Below.refl w.heap.size wr).alloc (by omega) _).grown GR.out (by simp; omega) (fun y hy => H1.out.own_ge hy))⟩
        have h2 := OW.out
        unfold Bys
        rw [HN.out, show l ++ [UInt8.ofNat r, UInt8.ofNat q] = (l ++ [UInt8.ofNat r]) ++ [UInt8.ofNat q] by simp, byteVals_snoc, ← u8_val (x := q) (by omega)]
        exact h2
/-- A text's bytes behind its length. -/
def textW (s : List UInt8) : List UInt8 := numW s.length ++ s
theorem wPut (A : Option Addr) (n c : Nat) (l : List UInt8) (N : Nat) (w : World) (hf : Form A n c) (h : BytesIn w A n l) (hm : n ≤ 1000000) (hN : N < 16384) :
    Calls Try.prog 38 #[.slice A n c, .int .i64 N] w fun e w' => ∃ B' m' c', e = .returned (.slice B' m' c') ∧ Bys w' w.heap.size B' m' c' (l ++ numW N) ∧ Below w.heap.size w w' := by
  have H := Lib.hid h
  have HF := Lib.hid hf
  clear h hf
  go_enter Try.func38, Try.ntmps38
  go_wp2_with (first
    | (go_at_call 33; refine (sclone A n c l _ HF.out hm H.out).mono ?_; rintro e w1 ⟨B, k, rfl, hB, hb1⟩; have B1 := Lib.hid hB; have HB1 := Lib.hid hb1; have hz := hb1.size; clear hB hb1)
    | (go_at_call 32; refine (bclip _ B n k l _ B1.out).mono ?_; rintro e w2 ⟨rfl, rfl⟩)
    | (go_at_call 44; refine (wput B n l N _ B1.out.clip.2 B1.out.clip.1 (by omega) hN).mono ?_; rintro e w3 ⟨B', m', c', rfl, hB, hb1⟩; have B3 := Lib.hid hB; have HB3 := Lib.hid hb1; clear hB hb1))
  go_ret
  exact ⟨B', m', c', rfl, B3.out.mono hz, HB1.out.trans (HB3.out.mono hz)⟩
theorem wText (A : Option Addr) (n c : Nat) (l s : List UInt8) (w : World) (hf : Form A n c) (h : BytesIn w A n l) (hm : n ≤ 1000000) (hs : s.length < 16384) :
    Calls Try.prog 30 #[.slice A n c, encStr s] w fun e w' => ∃ B' m' c', e = .returned (.slice B' m' c') ∧ Bys w' w.heap.size B' m' c' (l ++ textW s) ∧ Below w.heap.size w w' := by
  have H := Lib.hid h
  have HF := Lib.hid hf
  obtain ⟨i0, hi0, hz0, hz1, hz2⟩ := info_parts byte_info
  have hsz : (⟨s.toArray⟩ : ByteArray).size = s.length := by simp [ByteArray.size]
  have hs63 : s.length ≤ 9223372036854775807 := by omega
  clear h hf
  go_enter Try.func30, Try.ntmps30
  go_wp2_with (first
    | (go_at_call 38; refine (wPut A n c l s.length _ HF.out H.out hm hs).mono ?_; rintro e w1 ⟨B, m1, k, rfl, hB, hb1⟩; have hm1 : m1 ≤ n + 2 := (by have h1 := hB.len; have h2 := H.out.1; have h3 := numW_len s.length; rw [List.length_append] at h1; split at h3 <;> omega); have B1 := Lib.hid hB; have HB1 := Lib.hid hb1; have hz := hb1.size; clear hB hb1)
    | (at_builtin
       go_loud (refine Lib.wpList_append_own_string _ rfl (.tmp 8) (.tmp 9) 29 9 rfl w.heap.size 5 i0 Try.underlying29 Try.underlying9 hi0 hz0 hz1 hz2 _ m1 _ rfl B1.out ⟨s.toArray⟩ rfl (by rw [hsz]; simp only [maxLen]; omega) (by rw [hsz]; omega) hz ?_)
       intro v w2 hown hgr hnil
       have OW := Lib.hid hown
       have GR := Lib.hid hgr
       clear hown hgr hnil))
  go_ret
  have hbb : Below w.heap.size w w2 := HB1.out.grown GR.out hz (fun q hq => B1.out.own_ge hq)
  have hfin : ∃ B' m' c', v = .slice B' m' c' ∧ Bys w2 w.heap.size B' m' c' (l ++ textW s) := by
    have h2 := OW.out
    rw [hsz] at h2
    have e1 : byteVals (l ++ numW s.length) ++ Lib.strCells ⟨s.toArray⟩ = byteVals (l ++ textW s) := by
      unfold textW
      rw [← List.append_assoc, byteVals_append (l ++ numW s.length) s]
      congr 1
    rw [e1] at h2
    rcases h2.2 with ⟨rfl, h0⟩ | ⟨g, cap, cur, rfl, _⟩
    · exact ⟨none, 0, 0, rfl, by unfold Bys; rw [h0] at h2; exact h2⟩
    · exact ⟨_, _, cap, rfl, h2⟩
  obtain ⟨B', m', c', rfl, hB⟩ := hfin
  exact ⟨B', m', c', rfl, hB, hbb⟩
end
end Go.Proofs.Ytgkgieemdjbhpaa
