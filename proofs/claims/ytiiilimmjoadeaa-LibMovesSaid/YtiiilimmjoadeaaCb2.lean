/- The law CartTears returns true on values. No condition beyond those that each theorem states. -/
import Derived.Test.YtiiilimmjoadeaaCa9
namespace Go.Proofs.Ytiiilimmjoadeaa
open Go.RowKit

theorem appendM_ok {M : Recs} {most : Int} {l : List UInt8} (h1 : 1 ≤ l.length) (h2 : l.length ≤ 256) (h3 : M.length < most) : appendM M most false l = ((M.length : Int), 0, M ++ [(l, false)]) := by
  unfold appendM
  rw [if_neg (by omega), if_neg (by simp), if_neg (by omega)]
theorem appendM_bad {M : Recs} {most : Int} {lost : Bool} {l : List UInt8} (h : l.length = 0 ∨ 256 < l.length) : appendM M most lost l = (0, 1, M) := by
  unfold appendM
  rw [if_pos h]
theorem BytesIn.take {w : World} {A : Option Addr} {n k : Nat} {l : List UInt8} (h : BytesIn w A n l) (hk : k ≤ n) : BytesIn w A k (l.take k) := by
  refine ⟨by rw [List.length_take, h.1]; omega, ?_⟩
  rcases h.2 with h0 | ⟨b, off, h1, h2, h3⟩
  · exact .inl (by omega)
  · refine .inr ⟨b, off, h1, h2, fun i u hu => h3 i u ?_⟩
    rw [List.getElem?_take] at hu
    split at hu
    · exact hu
    · cases hu
theorem bytes_string {w : World} {A : Option Addr} {n c : Nat} {l : List UInt8} (h : BytesIn w A n l) (hA : A = none ∨ ∃ b off, A = some ⟨b, off, none⟩) : (convert 22 9 (.slice A n c)).run Try.prog w = .ok (.string ⟨l.toArray⟩) w :=
  run_string_of Try.underlying22 Try.underlying5 Try.underlying9 h hA

set_option maxRecDepth 100000 in
set_option maxHeartbeats 4000000 in
/-- One of the two is refused. -/
theorem cartTears_no (A B : Option Addr) (n c m d : Nat) (la lb : List UInt8) (k : Int) (w : World) (ha : BytesIn w A n la) (hb : BytesIn w B m lb) (h : (la.length = 0 ∨ 256 < la.length) ∨ ((1 ≤ la.length ∧ la.length ≤ 256) ∧ (lb.length = 0 ∨ 256 < lb.length))) :
    Calls Try.prog 4 #[.slice A n c, .slice B m d, .int .i64 k] w fun e w' => e = .returned (.bool true) ∧ Below w.heap.size w w' := by
  have HA := Lib.hid ha
  have HB := Lib.hid hb
  have H := Lib.hid h
  clear ha hb h
  go_enter Try.func4, Try.ntmps4
  go_wp2_with fail
  refine (pNew 3 _).mono ?_
  rintro e w1 ⟨p, rfl, h1, _⟩
  have P1 := Lib.hid (show Priv w w1 p [] 3 false from h1)
  clear h1
  go_wp2_with fail
  refine (pAppend w p [] 3 false A n c la _ P1.out (HA.out.below P1.out.base)).mono ?_
  rintro e w2 ⟨rfl, h1, _⟩
  rcases H.out with hbad | ⟨⟨g1, g2⟩, hbad⟩
  · rw [appendM_bad hbad] at h1 ⊢
    have P2 := Lib.hid h1
    have HBD := Lib.hid hbad
    clear h1 hbad
    go_wp2_with fail
    refine (pAppend w p [] 3 false B m d lb _ P2.out (HB.out.below P2.out.base)).mono ?_
    rintro e w3 ⟨rfl, h1, _⟩
    have P3 := Lib.hid h1
    clear h1
    generalize (appendM [] 3 false lb).2.1 = z at *
    generalize (appendM [] 3 false lb).1 = z1 at *
    go_wp2_with fail
    refine (awake07 _).mono ?_
    rintro e w4 ⟨rfl, hb4⟩
    go_wp2_with fail
    go_ret
    exact ⟨rfl, P3.out.base.trans (hb4.mono P3.out.base.size)⟩
  · rw [appendM_ok (M := []) (most := 3) g1 g2 (by simp)] at h1 ⊢
    have P2 := Lib.hid h1
    have HBD := Lib.hid hbad
    clear h1 hbad g1 g2
    go_wp2_with fail
    refine (pAppend w p _ 3 false B m d lb _ P2.out (HB.out.below P2.out.base)).mono ?_
    rintro e w3 ⟨rfl, h1, _⟩
    rw [appendM_bad HBD.out] at h1 ⊢
    have P3 := Lib.hid h1
    clear h1
    go_wp2_with fail
    refine (awake07 _).mono ?_
    rintro e w4 ⟨rfl, hb4⟩
    go_wp2_with fail
    go_ret
    exact ⟨rfl, P3.out.base.trans (hb4.mono P3.out.base.size)⟩

theorem tearM_two (la lb : List UInt8) (k : Int) : tearM [(la, false), (lb, false)] false k = if 0 ≤ k ∧ k < lb.length then (true, [(la, false), (lb.take k.toNat, false)]) else (false, [(la, false), (lb, false)]) := rfl

set_option maxRecDepth 100000 in
set_option maxHeartbeats 4000000 in
/-- Both are written. -/
theorem cartTears_yes (b1 o1 b2 o2 : Nat) (n c m d : Nat) (la lb : List UInt8) (k : Int) (w : World) (ha : BytesIn w (some ⟨b1, o1, none⟩) n la) (hb : BytesIn w (some ⟨b2, o2, none⟩) m lb) (h1 : 1 ≤ la.length) (h2 : la.length ≤ 256) (h3 : 1 ≤ lb.length) (h4 : lb.length ≤ 256) (hmd : m ≤ d) (hdm : d ≤ maxLen) :
    Calls Try.prog 4 #[.slice (some ⟨b1, o1, none⟩) n c, .slice (some ⟨b2, o2, none⟩) m d, .int .i64 k] w fun e w' => e = .returned (.bool true) ∧ Below w.heap.size w w' := by
  have HA := Lib.hid ha
  have HB := Lib.hid hb
  have HL := Lib.hid (And.intro (And.intro h1 h2) (And.intro h3 h4))
  have hlm := hb.1
  have hm256 : m ≤ 256 := by omega
  have hdm' : d ≤ 9223372036854775807 := by simpa [maxLen] using hdm
  have hkc : (∃ i : Nat, k = i ∧ i < m) ∨ (k < 0) ∨ (0 ≤ k ∧ (m : Int) ≤ k) := by
    rcases Int.lt_or_le k 0 with h | h
    · exact .inr (.inl h)
    · rcases Int.lt_or_le k m with h' | h'
      · exact .inl ⟨k.toNat, by omega, by omega⟩
      · exact .inr (.inr ⟨h, h'⟩)
  have HLM := Lib.hid hlm
  clear ha hb h1 h2 h3 h4 hdm hlm
  go_enter Try.func4, Try.ntmps4
  go_wp2_with fail
  refine (pNew 3 _).mono ?_
  rintro e w1 ⟨p, rfl, h1, _⟩
  have P1 := Lib.hid (show Priv w w1 p [] 3 false from h1)
  clear h1
  go_wp2_with fail
  refine (pAppend w p [] 3 false _ n c la _ P1.out (HA.out.below P1.out.base)).mono ?_
  rintro e w2 ⟨rfl, h1, _⟩
  rw [appendM_ok (M := []) (most := 3) HL.out.1.1 HL.out.1.2 (by simp)] at h1 ⊢
  have P2 := Lib.hid h1
  clear h1
  go_wp2_with fail
  refine (pAppend w p _ 3 false _ m d lb _ P2.out (HB.out.below P2.out.base)).mono ?_
  rintro e w3 ⟨rfl, h1, _⟩
  rw [appendM_ok (M := [] ++ [(la, false)]) (most := 3) HL.out.2.1 HL.out.2.2 (by simp)] at h1 ⊢
  have P3 := Lib.hid (show Priv w w3 p [(la, false), (lb, false)] 3 false from h1)
  clear h1
  go_wp2_with fail
  refine (pTear w p _ 3 false k _ P3.out).mono ?_
  rintro e w4 ⟨rfl, h1, _⟩
  rw [tearM_two] at h1 ⊢
  rcases hkc with ⟨i, rfl, hi⟩ | hk | ⟨hk0, hk⟩
  · have e1 : (if 0 ≤ (i : Int) ∧ (i : Int) < lb.length then (true, [(la, false), (lb.take (i : Int).toNat, false)]) else (false, [(la, false), (lb, false)])) = (true, ([(la, false), (lb.take i, false)] : Recs)) := by
      rw [if_pos (by rw [HLM.out]; omega), Int.toNat_natCast]
    rw [e1] at h1 ⊢
    have P4 := Lib.hid h1
    clear h1 e1
    have d1 : decide (i < m) = true := by simpa using hi
    have hcv1 := bytes_string (c := d) (HB.out.below P4.out.base) (.inr ⟨_, _, rfl⟩)
    have hcv2 := bytes_string (c := d) ((HB.out.below P4.out.base).take (show i ≤ m by omega)) (.inr ⟨_, _, rfl⟩)
    go_wp2_with fail
    refine (pRead w p _ 3 false 0 _ P4.out).mono ?_
    rintro e w5 ⟨v5, rfl, o5, h1, _⟩
    have P5 := Lib.hid h1
    have O5 := Lib.hid (show OutB w4 w5 v5 la from o5)
    clear h1 o5
    simp only [show (readM [(la, false), (lb.take i, false)] false 0).2 = 0 from rfl]
    go_wp2_with fail
    refine (pRead w p _ 3 false 1 _ P5.out).mono ?_
    rintro e w6 ⟨v6, rfl, o6, h1, k6⟩
    have P6 := Lib.hid h1
    have O6 := Lib.hid (show OutB w5 w6 v6 (lb.take i) from o6)
    have K6 := Lib.hid (Keeps.of_below k6)
    clear h1 o6 k6
    simp only [show (readM [(la, false), (lb.take i, false)] false 1).2 = 0 from rfl]
    go_wp2_with fail
    refine (pAppend w p _ 3 false _ 1 1 [1] _ (P6.out.alloc _) (lit_bytes _ [1] _)).mono ?_
    rintro e w7 ⟨rfl, h1, k7⟩
    have P7 := Lib.hid h1
    have K7 := Lib.hid ((Keeps.of_below ((Below.refl _ _).alloc (Nat.le_refl _) _)).trans k7)
    clear h1 k7
    simp only [show (appendM [(la, false), (lb.take i, false)] 3 false [1]).1 = 2 from rfl, show (appendM [(la, false), (lb.take i, false)] 3 false [1]).2.1 = 0 from rfl]
    go_wp2_with fail
    refine (awake07 _).mono ?_
    rintro e w8 ⟨rfl, hb8⟩
    have hcx := ((((O5.out.keeps K6.out).keeps K7.out).keeps (Keeps.of_below hb8))).string
    have hcy := (((O6.out.keeps K7.out).keeps (Keeps.of_below hb8))).string
    have hbb := P7.out.base.trans (hb8.mono P7.out.base.size)
    have hca := bytes_string (c := c) (HA.out.below hbb) (.inr ⟨_, _, rfl⟩)
    have HBB := Lib.hid hbb
    clear hb8 hbb
    go_wp2_with fail
    go_ret
    exact ⟨rfl, HBB.out⟩
  · have e1 : (if 0 ≤ k ∧ k < lb.length then (true, [(la, false), (lb.take k.toNat, false)]) else (false, [(la, false), (lb, false)])) = (false, ([(la, false), (lb, false)] : Recs)) := by
      rw [if_neg (by omega)]
    rw [e1] at h1 ⊢
    have P4 := Lib.hid h1
    clear h1 e1
    have hcv1 := bytes_string (c := d) (HB.out.below P4.out.base) (.inr ⟨_, _, rfl⟩)
    go_wp2_with fail
    refine (pRead w p _ 3 false 0 _ P4.out).mono ?_
    rintro e w5 ⟨v5, rfl, o5, h1, _⟩
    have P5 := Lib.hid h1
    have O5 := Lib.hid (show OutB w4 w5 v5 la from o5)
    clear h1 o5
    simp only [show (readM [(la, false), (lb, false)] false 0).2 = 0 from rfl]
    go_wp2_with fail
    refine (pRead w p _ 3 false 1 _ P5.out).mono ?_
    rintro e w6 ⟨v6, rfl, o6, h1, k6⟩
    have P6 := Lib.hid h1
    have O6 := Lib.hid (show OutB w5 w6 v6 (lb) from o6)
    have K6 := Lib.hid (Keeps.of_below k6)
    clear h1 o6 k6
    simp only [show (readM [(la, false), (lb, false)] false 1).2 = 0 from rfl]
    go_wp2_with fail
    refine (pAppend w p _ 3 false _ 1 1 [1] _ (P6.out.alloc _) (lit_bytes _ [1] _)).mono ?_
    rintro e w7 ⟨rfl, h1, k7⟩
    have P7 := Lib.hid h1
    have K7 := Lib.hid ((Keeps.of_below ((Below.refl _ _).alloc (Nat.le_refl _) _)).trans k7)
    clear h1 k7
    simp only [show (appendM [(la, false), (lb, false)] 3 false [1]).1 = 2 from rfl, show (appendM [(la, false), (lb, false)] 3 false [1]).2.1 = 0 from rfl]
    go_wp2_with fail
    refine (awake07 _).mono ?_
    rintro e w8 ⟨rfl, hb8⟩
    have hcx := ((((O5.out.keeps K6.out).keeps K7.out).keeps (Keeps.of_below hb8))).string
    have hcy := (((O6.out.keeps K7.out).keeps (Keeps.of_below hb8))).string
    have hbb := P7.out.base.trans (hb8.mono P7.out.base.size)
    have hca := bytes_string (c := c) (HA.out.below hbb) (.inr ⟨_, _, rfl⟩)
    have HBB := Lib.hid hbb
    clear hb8 hbb
    go_wp2_with fail
    go_ret
    exact ⟨rfl, HBB.out⟩
  · have e1 : (if 0 ≤ k ∧ k < lb.length then (true, [(la, false), (lb.take k.toNat, false)]) else (false, [(la, false), (lb, false)])) = (false, ([(la, false), (lb, false)] : Recs)) := by
      rw [if_neg (by rw [HLM.out]; omega)]
    rw [e1] at h1 ⊢
    have P4 := Lib.hid h1
    clear h1 e1
    have hcv1 := bytes_string (c := d) (HB.out.below P4.out.base) (.inr ⟨_, _, rfl⟩)
    go_wp2_with fail
    refine (pRead w p _ 3 false 0 _ P4.out).mono ?_
    rintro e w5 ⟨v5, rfl, o5, h1, _⟩
    have P5 := Lib.hid h1
    have O5 := Lib.hid (show OutB w4 w5 v5 la from o5)
    clear h1 o5
    simp only [show (readM [(la, false), (lb, false)] false 0).2 = 0 from rfl]
    go_wp2_with fail
    refine (pRead w p _ 3 false 1 _ P5.out).mono ?_
    rintro e w6 ⟨v6, rfl, o6, h1, k6⟩
    have P6 := Lib.hid h1
    have O6 := Lib.hid (show OutB w5 w6 v6 (lb) from o6)
    have K6 := Lib.hid (Keeps.of_below k6)
    clear h1 o6 k6
    simp only [show (readM [(la, false), (lb, false)] false 1).2 = 0 from rfl]
    go_wp2_with fail
    refine (pAppend w p _ 3 false _ 1 1 [1] _ (P6.out.alloc _) (lit_bytes _ [1] _)).mono ?_
    rintro e w7 ⟨rfl, h1, k7⟩
    have P7 := Lib.hid h1
    have K7 := Lib.hid ((Keeps.of_below ((Below.refl _ _).alloc (Nat.le_refl _) _)).trans k7)
    clear h1 k7
    simp only [show (appendM [(la, false), (lb, false)] 3 false [1]).1 = 2 from rfl, show (appendM [(la, false), (lb, false)] 3 false [1]).2.1 = 0 from rfl]
    go_wp2_with fail
    refine (awake07 _).mono ?_
    rintro e w8 ⟨rfl, hb8⟩
    have hcx := ((((O5.out.keeps K6.out).keeps K7.out).keeps (Keeps.of_below hb8))).string
    have hcy := (((O6.out.keeps K7.out).keeps (Keeps.of_below hb8))).string
    have hbb := P7.out.base.trans (hb8.mono P7.out.base.size)
    have hca := bytes_string (c := c) (HA.out.below hbb) (.inr ⟨_, _, rfl⟩)
    have HBB := Lib.hid hbb
    clear hb8 hbb
    go_wp2_with fail
    go_ret
    exact ⟨rfl, HBB.out⟩

theorem cartTears_walk (A B : Option Addr) (n c m d : Nat) (la lb : List UInt8) (k : Int) (w : World) (ha : BytesIn w A n la) (hb : BytesIn w B m lb) (hmd : m ≤ d) (hdm : d ≤ maxLen) :
    Calls Try.prog 4 #[.slice A n c, .slice B m d, .int .i64 k] w fun e w' => e = .returned (.bool true) ∧ Below w.heap.size w w' := by
  have hla := ha.1
  have hlb := hb.1
  by_cases h : (la.length = 0 ∨ 256 < la.length) ∨ ((1 ≤ la.length ∧ la.length ≤ 256) ∧ (lb.length = 0 ∨ 256 < lb.length))
  · exact cartTears_no A B n c m d la lb k w ha hb h
  · obtain ⟨b1, o1, rfl, _⟩ := ha.2.resolve_left (by omega)
    obtain ⟨b2, o2, rfl, _⟩ := hb.2.resolve_left (by omega)
    exact cartTears_yes b1 o1 b2 o2 n c m d la lb k w ha hb (by omega) (by omega) (by omega) (by omega) hmd hdm
end Go.Proofs.Ytiiilimmjoadeaa
