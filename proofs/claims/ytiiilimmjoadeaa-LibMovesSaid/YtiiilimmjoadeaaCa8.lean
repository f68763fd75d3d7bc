/- A cartridge that the caller alone has, as a list of records: what its methods do. No condition beyond those that each theorem states. -/
import Derived.Test.YtiiilimmjoadeaaCa7
namespace Go.Proofs.Ytiiilimmjoadeaa
open Go.RowKit

abbrev Recs := List (List UInt8 × Bool)

/-- Blocks that hold neither a cartridge's struct nor records are as they were. -/
structure Keeps (w w' : World) : Prop where
  size : w.heap.size ≤ w'.heap.size
  block : ∀ (k : Nat) (o : Obj), w.heap[k]? = some o → (∀ cs fr, o ≠ .cells cs 76 fr) → (∀ cs fr, o ≠ .cells cs 79 fr) → w'.heap[k]? = some o

theorem Keeps.refl (w : World) : Keeps w w := ⟨Nat.le_refl _, fun _ _ h _ _ => h⟩
theorem Keeps.trans {a b c : World} (h : Keeps a b) (k : Keeps b c) : Keeps a c := ⟨Nat.le_trans h.size k.size, fun i o ho h1 h2 => k.block i o (h.block i o ho h1 h2) h1 h2⟩
theorem Keeps.of_below {a b : World} (h : Below a.heap.size a b) : Keeps a b := ⟨h.size, fun i _ ho _ _ => (h.block i (Array.getElem?_eq_some_iff.1 ho).1).trans ho⟩
theorem Keeps.of_chg {S : Nat → Prop} {a b : World} (h : Chg S a b) (hS : ∀ k, S k → (∃ cs, Blk a k 76 cs) ∨ ∃ cs, Blk a k 79 cs) : Keeps a b :=
  ⟨h.size, fun i o ho h1 h2 => (h.block i (Array.getElem?_eq_some_iff.1 ho).1 (fun hs => by
    rcases hS i hs with ⟨cs, hc⟩ | ⟨cs, hc⟩
    · unfold Blk at hc; rw [ho] at hc; exact h1 _ _ (Option.some.inj hc)
    · unfold Blk at hc; rw [ho] at hc; exact h2 _ _ (Option.some.inj hc))).trans ho⟩
theorem Keeps.blk {a b : World} (h : Keeps a b) {k : Nat} {t : TypeId} {cs : Array Value} (hb : Blk a k t cs) (h1 : t ≠ 76) (h2 : t ≠ 79) : Blk b k t cs :=
  h.block k _ hb (fun _ _ e => by injection e with _ e; exact h1 e) (fun _ _ e => by injection e with _ e; exact h2 e)
theorem Keeps.row {a b : World} (h : Keeps a b) {k : Nat} {t : TypeId} {vals : List Value} (hb : RowAt a k t vals) (h1 : t ≠ 76) (h2 : t ≠ 79) : RowAt b k t vals := by
  obtain ⟨cs, h3, h4⟩ := hb
  exact ⟨cs, h.block k _ h3 (fun _ _ e => by injection e with _ e; exact h1 e) (fun _ _ e => by injection e with _ e; exact h2 e), h4⟩

/-- A cartridge made since w0: what is on it. -/
def Priv (w0 w : World) (p : Nat) (M : Recs) (most : Int) (lost : Bool) : Prop :=
  ∃ (lv : Value) (R : List RecV), R.map (fun r => (r.bytes, r.rot)) = M ∧ CartAt w p lv R most lost ∧ w0.heap.size ≤ p ∧ (∀ g, lv.ownBlock = some g → w0.heap.size ≤ g) ∧ Below w0.heap.size w0 w ∧ ∀ r ∈ R, w0.heap.size ≤ r.g

section
variable {w0 w w' : World} {p : Nat} {M : Recs} {most : Int} {lost : Bool}
theorem Priv.base (h : Priv w0 w p M most lost) : Below w0.heap.size w0 w := by
  obtain ⟨lv, R, _, _, _, _, hb, _⟩ := h
  exact hb
theorem Priv.below (h : Priv w0 w p M most lost) (hb : Below w.heap.size w w') : Priv w0 w' p M most lost := by
  obtain ⟨lv, R, hM, hc, hp, ho, hw, hg⟩ := h
  exact ⟨lv, R, hM, hc.below hb, hp, ho, hw.trans (hb.mono hw.size), hg⟩
theorem Priv.chg {lv : Value} {R : List RecV} {S : Nat → Prop} {lv' : Value} {R' : List RecV} {lost' : Bool} (hc : CartAt w p lv R most lost) (hp : w0.heap.size ≤ p) (ho : ∀ g, lv.ownBlock = some g → w0.heap.size ≤ g) (hw : Below w0.heap.size w0 w)
    (hS : ∀ k, S k → k = p ∨ lv.ownBlock = some k) (h' : CartAt w' p lv' R' most lost') (ho' : ∀ g, lv'.ownBlock = some g → w0.heap.size ≤ g) (hg : Chg S w w') (hM : R'.map (fun r => (r.bytes, r.rot)) = M) (hr : ∀ r ∈ R', w0.heap.size ≤ r.g) : Priv w0 w' p M most lost' ∧ Keeps w w' := by
  refine ⟨⟨lv', R', hM, h', hp, ho', hw.trans (hg.below hw.size (fun i hi => ?_)), hr⟩, Keeps.of_chg hg (fun k hk => ?_)⟩
  · rcases hS i hi with rfl | h
    · exact hp
    · exact ho i h
  · rcases hS k hk with rfl | h
    · exact .inl ⟨_, hc.blk⟩
    · exact .inr (own_blk hc.own h)
end

theorem pNew (m : Int) (w : World) : Calls Try.prog 13 #[.int .i64 m] w fun e w' => ∃ p, e = .returned (.pointer (some ⟨p, 0, none⟩)) ∧ Priv w w' p [] (max 0 (min m 1024)) false ∧ Keeps w w' :=
  (cartNew_any m w).mono fun e w' ⟨p, he, hp, hc, hb⟩ => ⟨p, he, ⟨_, [], rfl, hc, hp, (fun g hg => by cases hg), hb, (fun r hr => by cases hr)⟩, Keeps.of_below hb⟩

/-- What Append answers, and leaves. -/
def appendM (M : Recs) (most : Int) (lost : Bool) (l : List UInt8) : Int × Int × Recs :=
  if l.length = 0 ∨ 256 < l.length then (0, 1, M) else if lost then (0, 9, M) else if most ≤ M.length then (0, 7, M) else (M.length, 0, M ++ [(l, false)])

theorem tup2 {a b c d : Int} (h1 : a = b) (h2 : c = d) : Ending.returned (.tuple #[.int .i64 a, .int .i64 c]) = .returned (.tuple #[.int .i64 b, .int .i64 d]) := by rw [h1, h2]

theorem pAppend (w0 : World) (p : Nat) (M : Recs) (most : Int) (lost : Bool) (A : Option Addr) (n c : Nat) (l : List UInt8) (w : World) (h : Priv w0 w p M most lost) (hb : BytesIn w A n l) :
    Calls Try.prog 14 #[.pointer (some ⟨p, 0, none⟩), .slice A n c] w fun e w' => e = .returned (.tuple #[.int .i64 (appendM M most lost l).1, .int .i64 (appendM M most lost l).2.1]) ∧ Priv w0 w' p (appendM M most lost l).2.2 most lost ∧ Keeps w w' := by
  have hln := hb.1
  by_cases hbad : l.length = 0 ∨ 256 < l.length
  · have e1 : appendM M most lost l = (0, 1, M) := by unfold appendM; rw [if_pos hbad]
    rw [e1]
    refine (append_bad _ A n c w (.inr ⟨p, rfl⟩) (.inr (by rw [hln] at hbad; exact hbad))).mono fun e w' ⟨he, hw⟩ => ?_
    subst hw
    exact ⟨he, h, Keeps.refl _⟩
  · have hn1 : 1 ≤ n := by omega
    have hn2 : n ≤ 256 := by omega
    obtain ⟨lv, R, hM, hc, hp, ho, hw0, hrg⟩ := h
    have hlen : R.length = M.length := by rw [← hM]; simp
    cases lost with
    | true =>
      have e1 : appendM M most true l = (0, 9, M) := by unfold appendM; rw [if_neg hbad]; rfl
      rw [e1]
      refine (append_lost p lv R most A n c w hc hn1 hn2).mono fun e w' ⟨he, hw⟩ => ?_
      subst hw
      exact ⟨he, ⟨lv, R, hM, hc, hp, ho, hw0, hrg⟩, Keeps.refl _⟩
    | false =>
      by_cases hf : most ≤ M.length
      · have e1 : appendM M most false l = (0, 7, M) := by unfold appendM; rw [if_neg hbad, if_neg (by simp), if_pos hf]
        rw [e1]
        refine (append_full p lv R most A n c w hc hn1 hn2 (by omega)).mono fun e w' ⟨he, hw⟩ => ?_
        exact ⟨he, Priv.below ⟨lv, R, hM, hc, hp, ho, hw0, hrg⟩ hw, Keeps.of_below hw⟩
      · have e1 : appendM M most false l = ((M.length : Int), 0, M ++ [(l, false)]) := by unfold appendM; rw [if_neg hbad, if_neg (by simp), if_neg hf]
        rw [e1]
        obtain ⟨b, off, rfl, _⟩ := hb.2.resolve_left (by omega)
        refine (append_ok p lv R most b off n c l w hc hb hn1 hn2 (by omega)).mono fun e w' ⟨lv', g, cap, he, hg, h', hchg, hat⟩ => ?_
        refine ⟨by rw [he, hlen], ?_⟩
        refine Priv.chg hc hp ho hw0 (fun k hk => hk) h' (fun q hq => ?_) hchg (by simp [hM]) (fun r hr => by
          rcases List.mem_append.1 hr with hr | hr
          · exact hrg r hr
          · have hr : r = ⟨g, n, cap, l, false⟩ := by simpa using hr
            subst hr
            exact Nat.le_trans hw0.size hg)
        rcases hat with h1 | ⟨g', h1, h2⟩
        · exact ho q (h1 ▸ hq)
        · rw [h1] at hq
          have e : g' = q := Option.some.inj hq
          have := hw0.size
          omega

/-- A slice that a call hands out: nothing, or new memory. -/
def OutB (w w' : World) (v : Value) (l : List UInt8) : Prop := (v = .slice none 0 0 ∧ l = []) ∨ Fresh w w' 5 l.length (byteVals l) v

/-- What Read answers: the bytes, and the error. -/
def readM (M : Recs) (lost : Bool) (pos : Int) : List UInt8 × Int :=
  if lost then ([], 9) else if pos < 0 then ([], 5) else match M[pos.toNat]? with
    | none => ([], 5)
    | some (l, rot) => if rot then ([], 10) else (l, 0)

theorem map_get {R : List RecV} {M : Recs} (h : R.map (fun r => (r.bytes, r.rot)) = M) (i : Nat) : M[i]? = (R[i]?).map fun r => (r.bytes, r.rot) := by rw [← h, List.getElem?_map]

theorem pRead (w0 : World) (p : Nat) (M : Recs) (most : Int) (lost : Bool) (pos : Int) (w : World) (h : Priv w0 w p M most lost) :
    Calls Try.prog 16 #[.pointer (some ⟨p, 0, none⟩), .int .i64 pos] w fun e w' => ∃ v, e = .returned (.tuple #[v, .int .i64 (readM M lost pos).2]) ∧ OutB w w' v (readM M lost pos).1 ∧ Priv w0 w' p M most lost ∧ Below w.heap.size w w' := by
  have h0 := h
  obtain ⟨lv, R, hM, hc, hp, ho, hw0, hrg⟩ := h
  have hlen : R.length = M.length := by rw [← hM]; simp
  cases lost with
  | true =>
    refine (read_lost p lv R most pos w hc).mono fun e w' ⟨he, hw⟩ => ?_
    subst hw
    exact ⟨_, he, .inl ⟨rfl, rfl⟩, h0, Below.refl _ _⟩
  | false =>
    have none_ : (pos < 0 ∨ R.length ≤ pos) → readM M false pos = ([], 5) := by
      intro hn
      unfold readM
      rw [if_neg (by simp)]
      by_cases hneg : pos < 0
      · rw [if_pos hneg]
      · rw [if_neg hneg, List.getElem?_eq_none (by omega)]
    by_cases hn : pos < 0 ∨ R.length ≤ pos
    · rw [none_ hn]
      refine (read_none p lv R most pos w hc hn).mono fun e w' ⟨he, hw⟩ => ?_
      subst hw
      exact ⟨_, he, .inl ⟨rfl, rfl⟩, h0, Below.refl _ _⟩
    · obtain ⟨i, rfl⟩ := Int.eq_ofNat_of_zero_le (show 0 ≤ pos by omega)
      have hi : i < R.length := by omega
      have hr : R[i]? = some R[i] := List.getElem?_eq_getElem hi
      have hm : M[i]? = some (R[i].bytes, R[i].rot) := by rw [map_get hM, hr]; rfl
      have e1 : readM M false (i : Int) = if R[i].rot then ([], 10) else (R[i].bytes, 0) := by
        unfold readM
        rw [if_neg (by simp), if_neg (by omega), Int.toNat_natCast, hm]
      rcases hc.form with ⟨_, h1⟩ | ⟨g, cap, rfl, _, _⟩
      · rw [h1] at hi; simp at hi
      cases hrot : R[i].rot with
      | true =>
        rw [e1, hrot]
        refine (read_rot p g cap R most i _ w hc hr hrot).mono fun e w' ⟨he, hw⟩ => ?_
        subst hw
        exact ⟨_, he, .inl ⟨rfl, rfl⟩, h0, Below.refl _ _⟩
      | false =>
        rw [e1, hrot]
        have hok := hc.recs _ (List.mem_of_getElem? hr)
        refine (read_ok p g cap R most i _ w hc hr hrot).mono fun e w' ⟨g', he, hg', hrow, hb⟩ => ?_
        have hsz := hok.size
        have hs := hok.short
        exact ⟨_, he, .inr ⟨g', R[i].len, by rw [show (if false = true then (([] : List UInt8), (10 : Int)) else (R[i].bytes, 0)).1 = R[i].bytes from rfl, hsz], hg', by show R[i].bytes.length ≤ _; omega, by simp only [maxLen]; omega, hrow⟩, h0.below hb, hb⟩

def rotM (M : Recs) (lost : Bool) (pos : Int) : Bool × Recs :=
  if lost then (false, M) else if pos < 0 then (false, M) else match M[pos.toNat]? with
    | none => (false, M)
    | some (l, rot) => if rot then (false, M) else (true, M.set pos.toNat (l, true))

theorem pRot (w0 : World) (p : Nat) (M : Recs) (most : Int) (lost : Bool) (pos : Int) (w : World) (h : Priv w0 w p M most lost) :
    Calls Try.prog 18 #[.pointer (some ⟨p, 0, none⟩), .int .i64 pos] w fun e w' => e = .returned (.bool (rotM M lost pos).1) ∧ Priv w0 w' p (rotM M lost pos).2 most lost ∧ Keeps w w' := by
  have h0 := h
  obtain ⟨lv, R, hM, hc, hp, ho, hw0, hrg⟩ := h
  have hlen : R.length = M.length := by rw [← hM]; simp
  cases lost with
  | true =>
    exact (rot_no _ pos w (.inr ⟨p, lv, R, most, rfl, hc⟩)).mono fun e w' ⟨he, hw⟩ => ⟨he, h0.below hw, Keeps.of_below hw⟩
  | false =>
    by_cases hn : pos < 0 ∨ R.length ≤ pos
    · have e1 : rotM M false pos = (false, M) := by
        unfold rotM
        rw [if_neg (by simp)]
        by_cases hneg : pos < 0
        · rw [if_pos hneg]
        · rw [if_neg hneg, List.getElem?_eq_none (by omega)]
      rw [e1]
      exact (rot_none p lv R most pos w hc hn).mono fun e w' ⟨he, hw⟩ => ⟨he, h0.below hw, Keeps.of_below hw⟩
    · obtain ⟨i, rfl⟩ := Int.eq_ofNat_of_zero_le (show 0 ≤ pos by omega)
      have hi : i < R.length := by omega
      have hr : R[i]? = some R[i] := List.getElem?_eq_getElem hi
      have hm : M[i]? = some (R[i].bytes, R[i].rot) := by rw [map_get hM, hr]; rfl
      have e1 : rotM M false (i : Int) = if R[i].rot then (false, M) else (true, M.set i (R[i].bytes, true)) := by
        unfold rotM
        rw [if_neg (by simp), if_neg (by omega), Int.toNat_natCast, hm]
      rcases hc.form with ⟨_, h1⟩ | ⟨g, cap, rfl, _, _⟩
      · rw [h1] at hi; simp at hi
      cases hrot : R[i].rot with
      | true =>
        rw [e1, hrot]
        exact (rot_again p g cap R most i _ w hc hr hrot).mono fun e w' ⟨he, hw⟩ => ⟨he, h0.below hw, Keeps.of_below hw⟩
      | false =>
        rw [e1, hrot]
        refine (rot_yes p g cap R most i _ w hc hr hrot).mono fun e w' ⟨he, h', hchg⟩ => ⟨he, ?_⟩
        exact Priv.chg hc hp ho hw0 (fun k hk => .inr (by rw [hk]; rfl)) h' ho hchg (by rw [List.map_set, hM]; rfl) (fun x hx => by
          rcases List.mem_or_eq_of_mem_set hx with hx | rfl
          · exact hrg x hx
          · show w0.heap.size ≤ R[i].g
            exact hrg _ (List.mem_of_getElem? hr))

def tearM (M : Recs) (lost : Bool) (n : Int) : Bool × Recs :=
  if lost then (false, M) else match M[M.length - 1]? with
    | none => (false, M)
    | some (l, rot) => if 0 ≤ n ∧ n < l.length then (true, M.set (M.length - 1) (l.take n.toNat, rot)) else (false, M)

theorem pTear (w0 : World) (p : Nat) (M : Recs) (most : Int) (lost : Bool) (n : Int) (w : World) (h : Priv w0 w p M most lost) :
    Calls Try.prog 17 #[.pointer (some ⟨p, 0, none⟩), .int .i64 n] w fun e w' => e = .returned (.bool (tearM M lost n).1) ∧ Priv w0 w' p (tearM M lost n).2 most lost ∧ Keeps w w' := by
  have h0 := h
  obtain ⟨lv, R, hM, hc, hp, ho, hw0, hrg⟩ := h
  have hlen : R.length = M.length := by rw [← hM]; simp
  cases lost with
  | true => exact (tear_off _ n w (.inr ⟨p, lv, R, most, rfl, hc⟩)).mono fun e w' ⟨he, hw⟩ => ⟨he, h0.below hw, Keeps.of_below hw⟩
  | false =>
    rcases Nat.eq_zero_or_pos R.length with hR | hR
    · have hR0 := List.eq_nil_of_length_eq_zero hR
      subst hR0
      have hM0 : M = [] := by rw [← hM]; rfl
      subst hM0
      exact (tear_none p lv most n w hc).mono fun e w' ⟨he, hw⟩ => ⟨he, h0.below hw, Keeps.of_below hw⟩
    · obtain ⟨i, hi⟩ : ∃ i, R.length = i + 1 := ⟨R.length - 1, by omega⟩
      have hil : i < R.length := by omega
      have hr : R[i]? = some R[i] := List.getElem?_eq_getElem hil
      have hm : M[M.length - 1]? = some (R[i].bytes, R[i].rot) := by rw [map_get hM, show M.length - 1 = i by omega, hr]; rfl
      have hok := hc.recs _ (List.mem_of_getElem? hr)
      have hsz := hok.size
      have e1 : tearM M false n = if 0 ≤ n ∧ n < R[i].bytes.length then (true, M.set i (R[i].bytes.take n.toNat, R[i].rot)) else (false, M) := by
        unfold tearM
        rw [if_neg (by simp), hm, show M.length - 1 = i by omega]
      rcases hc.form with ⟨_, h1⟩ | ⟨g, cap, rfl, _, _⟩
      · rw [h1] at hil; simp at hil
      rw [e1]
      by_cases hn : 0 ≤ n ∧ n < R[i].bytes.length
      · rw [if_pos hn]
        obtain ⟨k, rfl⟩ := Int.eq_ofNat_of_zero_le hn.1
        refine (tear_ok p g cap R most i k _ w hc hi hr (by omega)).mono fun e w' ⟨he, h', hchg⟩ => ⟨he, ?_⟩
        exact Priv.chg hc hp ho hw0 (fun k hk => .inr (by rw [hk]; rfl)) h' ho hchg (by rw [List.map_set, hM]; rfl) (fun x hx => by
          rcases List.mem_or_eq_of_mem_set hx with hx | rfl
          · exact hrg x hx
          · show w0.heap.size ≤ R[i].g
            exact hrg _ (List.mem_of_getElem? hr))
      · rw [if_neg hn]
        exact (tear_bad p g cap R most i _ n w hc hi hr (by omega)).mono fun e w' ⟨he, hw⟩ => ⟨he, h0.below hw, Keeps.of_below hw⟩

theorem pLose (w0 : World) (p : Nat) (M : Recs) (most : Int) (lost : Bool) (w : World) (h : Priv w0 w p M most lost) :
    Calls Try.prog 26 #[.pointer (some ⟨p, 0, none⟩)] w fun e w' => e = .returned (.bool (!lost)) ∧ Priv w0 w' p M most true ∧ Keeps w w' := by
  have h0 := h
  obtain ⟨lv, R, hM, hc, hp, ho, hw0, hrg⟩ := h
  cases lost with
  | true =>
    refine (lose_no _ w (.inr ⟨p, lv, R, most, rfl, hc⟩)).mono fun e w' ⟨he, hw⟩ => ?_
    subst hw
    exact ⟨he, h0, Keeps.refl _⟩
  | false =>
    refine (lose_yes p lv R most w hc).mono fun e w' ⟨he, h', hchg⟩ => ⟨he, ?_⟩
    exact Priv.chg hc hp ho hw0 (fun k hk => .inl hk) h' ho hchg hM hrg

theorem pLost (w0 : World) (p : Nat) (M : Recs) (most : Int) (lost : Bool) (w : World) (h : Priv w0 w p M most lost) :
    Calls Try.prog 25 #[.pointer (some ⟨p, 0, none⟩)] w fun e w' => e = .returned (.bool lost) ∧ w = w' := by
  obtain ⟨lv, R, hM, hc, hp, ho, hw0, hrg⟩ := h
  exact lost_any p lv R most lost w hc

theorem pLen (w0 : World) (p : Nat) (M : Recs) (most : Int) (lost : Bool) (w : World) (h : Priv w0 w p M most lost) :
    Calls Try.prog 19 #[.pointer (some ⟨p, 0, none⟩)] w fun e w' => e = .returned (.int .i64 M.length) ∧ w = w' := by
  obtain ⟨lv, R, hM, hc, hp, ho, hw0, hrg⟩ := h
  have hlen : R.length = M.length := by rw [← hM]; simp
  rw [← hlen]
  exact len_any p lv R most lost w hc

theorem pRoom (w0 : World) (p : Nat) (M : Recs) (most : Int) (lost : Bool) (w : World) (h : Priv w0 w p M most lost) :
    Calls Try.prog 20 #[.pointer (some ⟨p, 0, none⟩)] w fun e w' => e = .returned (.int .i64 (if lost then 0 else most - M.length)) ∧ ∃ n, w' = w.drewN n := by
  obtain ⟨lv, R, hM, hc, hp, ho, hw0, hrg⟩ := h
  have hlen : R.length = M.length := by rw [← hM]; simp
  cases lost with
  | true => exact (room_off _ w (.inr ⟨p, lv, R, most, rfl, hc⟩)).mono fun e w' ⟨he, hw⟩ => ⟨he, 0, by rw [← hw]; rfl⟩
  | false =>
    refine (room_any p lv R most w hc).mono fun e w' ⟨he, hw⟩ => ⟨by rw [he, hlen]; rfl, hw⟩

/-- A change of memory that is not the cartridge's: blocks below B, where its own lie from B on. -/
def Foot (B : Nat) (w : World) (p : Nat) (M : Recs) (most : Int) (lost : Bool) : Prop :=
  ∃ (lv : Value) (R : List RecV), R.map (fun r => (r.bytes, r.rot)) = M ∧ CartAt w p lv R most lost ∧ B ≤ p ∧ (∀ g, lv.ownBlock = some g → B ≤ g) ∧ ∀ r ∈ R, B ≤ r.g
theorem Priv.foot {w0 w : World} {p : Nat} {M : Recs} {most : Int} {lost : Bool} (h : Priv w0 w p M most lost) : Foot w0.heap.size w p M most lost := by
  obtain ⟨lv, R, hM, hc, hp, ho, _, hr⟩ := h
  exact ⟨lv, R, hM, hc, hp, ho, hr⟩
theorem Foot.keep {B : Nat} {w w' : World} {p : Nat} {M : Recs} {most : Int} {lost : Bool} (h : Foot B w p M most lost) (hk : ∀ k, B ≤ k → k < w.heap.size → w'.heap[k]? = w.heap[k]?) : Foot B w' p M most lost := by
  obtain ⟨lv, R, hM, hc, hp, ho, hr⟩ := h
  exact ⟨lv, R, hM, hc.keep (hk p hp hc.blk.size) (fun g hg => hk g (ho g hg) (hc.own_lt hg)) (fun r hx => hk r.g (hr r hx) (hc.rec_lt hx)), hp, ho, hr⟩
theorem Foot.priv {w0 w : World} {p : Nat} {M : Recs} {most : Int} {lost : Bool} (h : Foot w0.heap.size w p M most lost) (hb : Below w0.heap.size w0 w) : Priv w0 w p M most lost := by
  obtain ⟨lv, R, hM, hc, hp, ho, hr⟩ := h
  exact ⟨lv, R, hM, hc, hp, ho, hb, hr⟩
end Go.Proofs.Ytiiilimmjoadeaa
