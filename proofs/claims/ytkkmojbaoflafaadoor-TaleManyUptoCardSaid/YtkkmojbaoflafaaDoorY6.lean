/- A step as a line. No condition beyond those that each theorem states. -/
import Derived.Test.YtkkmojbaoflafaaDoorY4
import Derived.Test.YtkkmojbaoflafaaDoorY5
import Derived.Test.YtkkmojbaoflafaaDoorG1
import Derived.Deep.RegionHeld
import Derived.Deep.DeepCutAuto
import Derived.Deep.CutBlock
import Derived.Deep.DrawnRows
import Derived.Lib.OthersKept
namespace Go.Proofs.YtkkmojbaoflafaaDoor
open Go.RowKit Go.Shelf

theorem take_list {l : List Oper} {i : Nat} {o : Oper} (h : l[i]? = some o) : l.toArray[i]? = some o := by simpa using h
def lineV : Option Str → Value
  | some s => .tuple #[strV s, .int .i64 0]
  | none => .tuple #[strV [], .int .i64 1]
theorem str_info : (Tryd.prog.info? 9).map (fun i => (i.zero, i.size, i.bytes)) = some (some (.string ⟨#[]⟩), 1, 16) := by kernel_rfl
theorem forms_get {k : Nat} (h : k < 19) : ∃ f, formsT[k]? = some f := ⟨_, List.getElem?_eq_getElem h⟩
theorem kinds_mem : ∀ h ∈ kinds, ∀ c ∈ h, c = 107 ∨ c = 100 ∨ c = 97 ∨ c = 98 := by decide
def partVs (f : Str × Str) (x : StepV) (j : Nat) : List Value := strV f.1 :: ((f.2.take j).map fun c => strV (partT x c))
theorem partVs_len (f : Str × Str) (x : StepV) (j : Nat) (h : j ≤ f.2.length) : (partVs f x j).length = j + 1 := by simp [partVs]; omega
theorem partVs_succ {f : Str × Str} {x : StepV} {j : Nat} {c : UInt8} (h : f.2[j]? = some c) : partVs f x (j + 1) = partVs f x j ++ [strV (partT x c)] := by
  unfold partVs
  rw [List.take_add_one, h]
  simp
/-- What lies there in the course of Line. -/
structure LineAt (w0 : World) (it : Nat) (s : Str) (cs : Array Value) (vals : List Value) (n : Nat) (v : Value) (pos : Nat) (w : World) : Prop where
  row : w.ownsRow w0.heap.size 9 1 v n vals
  iter : w.heap[it]? = some (.stringIter ⟨s.toArray⟩ pos)
  box : Blk w w0.heap.size 24 cs
  base : Below w0.heap.size w0 w
  far : w0.heap.size ≤ it
section
variable {w0 w w' : World} {it n pos : Nat} {s : Str} {cs : Array Value} {vals : List Value} {v : Value}
theorem LineAt.lt (h : LineAt w0 it s cs vals n v pos w) : it < w.heap.size := (Array.getElem?_eq_some_iff.1 h.iter).1
theorem LineAt.below (h : LineAt w0 it s cs vals n v pos w) (hb : Below w.heap.size w w') : LineAt w0 it s cs vals n v pos w' :=
  ⟨own_of_eq h.row (fun g hg => hb.block g (h.row.lt g hg).2), (hb.block it h.lt).trans h.iter, h.box.below hb h.box.size, h.base.trans (hb.mono h.base.size), h.far⟩
theorem LineAt.next (h : LineAt w0 it s cs vals n v pos w) : LineAt w0 it s cs vals n v (pos + 1) (w.iterAt it ⟨s.toArray⟩ (pos + 1)) := by
  have hr : ∀ g, v.ownBlock = some g → g ≠ it := fun g hg e => by
    obtain ⟨cs', hb⟩ := own_blk h.row hg
    unfold Blk at hb
    rw [e, h.iter] at hb
    cases hb
  have hx : w0.heap.size ≠ it := fun e => by
    have hb := h.box
    unfold Blk at hb
    rw [e, h.iter] at hb
    cases hb
  exact ⟨own_of_eq h.row (fun g hg => Lib.iterAt_other w it g _ _ (hr g hg)), Lib.iterAt_heap w it _ pos (pos + 1) h.iter, h.box.of_eq (Lib.iterAt_other w it _ _ _ hx), Lib.below_iterAt h.base h.far _ _, h.far⟩
theorem LineAt.more {g n2 cap2 g2 cap : Nat} {xs : List Value} {o : Obj} (h : LineAt w0 it s cs vals n (.slice (some ⟨g, 0, none⟩) n cap) pos w) (h2 : w'.ownsRow w0.heap.size 9 1 (.slice (some ⟨g2, 0, none⟩) n2 cap2) n2 xs) (hg : (w.alloc o).grownBy w' (some g)) :
    LineAt w0 it s cs xs n2 (.slice (some ⟨g2, 0, none⟩) n2 cap2) pos w' := by
  obtain ⟨cs', hbk⟩ := own_blk h.row (g := g) rfl
  have h1 := (Below.refl w.heap.size w).alloc (Nat.le_refl _) o
  have ha := h.below h1
  have hne : it ≠ g := fun e => by
    unfold Blk at hbk
    rw [← e, h.iter] at hbk
    cases hbk
  have hnb : w0.heap.size ≠ g := blk_ne h.box hbk (by decide)
  exact ⟨h2, (hg.block it ha.lt (fun e => hne (Option.some.inj e))).trans ha.iter, ha.box.of_eq (hg.block _ ha.box.size (fun e => hnb (Option.some.inj e))), ha.base.grown hg ha.base.size (fun q hq => by
    have e := Option.some.inj hq
    have := (h.row.lt g rfl).1
    omega), h.far⟩
end
theorem next_at {s : Str} {w : World} {it j : Nat} {ch : UInt8} (h : w.heap[it]? = some (.stringIter ⟨s.toArray⟩ j)) (hc : s[j]? = some ch) (ha : ch.toNat < 128) (ty : TypeId) :
    (Instr.next (.pointer (some ⟨it, 0, none⟩)) true ty).run Tryd.prog w = .ok (.tuple #[.bool true, .int .i64 j, .int .i32 (ch.toNat : Int)]) (w.iterAt it ⟨s.toArray⟩ (j + 1)) := by
  have hj := (List.getElem?_eq_some_iff.1 hc).1
  have hsz : j < (⟨s.toArray⟩ : ByteArray).size := by
    show j < s.toArray.size
    simpa using hj
  have hgc : (⟨s.toArray⟩ : ByteArray)[j]'hsz = ch := by
    have := (List.getElem?_eq_some_iff.1 hc).2
    show s.toArray[j]'hsz = ch
    simpa using this
  rw [Lib.run_next_ascii_at w it ⟨s.toArray⟩ j ty h hsz (by rw [hgc]; exact ha), hgc]
theorem next_end {s : Str} {w : World} {it j : Nat} (h : w.heap[it]? = some (.stringIter ⟨s.toArray⟩ j)) (hj : s.length ≤ j) (ty : TypeId) :
    (Instr.next (.pointer (some ⟨it, 0, none⟩)) true ty).run Tryd.prog w = .ok (.tuple #[.bool false]) w :=
  Lib.run_next_end_at w it ⟨s.toArray⟩ j ty h (by
    show ¬ j < s.toArray.size
    simpa using hj)
theorem own_made1 (W : World) {base g : Nat} (t : TypeId) (v : Value) (hg : g = W.heap.size) (h : base ≤ g) : (W.alloc (.cells #[v] t)).ownsRow base t 1 (.slice (some ⟨g, 0, none⟩) 1 1) 1 [v] := by
  subst hg
  exact ⟨by simp, .inr ⟨_, 1, #[v], rfl, h, heap_alloc_new _ _, Nat.le_refl _, by simp [maxLen], by simp, by simp⟩⟩
theorem line_start {w w2 w3 : World} {f : Str × Str} {x : StepV} {cs : Array Value} (h2 : Below w.heap.size w w2) (h3 : Below w2.heap.size w2 w3) (hb : Blk w3 w.heap.size 24 cs) :
    LineAt w (w3.heap.size + 1 + 1) f.2 cs (partVs f x 0) 1 (.slice (some ⟨w3.heap.size + 1, 0, none⟩) 1 1) 0 ((((w3.alloc (.cells #[strV f.1, strV f.2] 49)).alloc (.cells #[strV f.1] 9)).iter ⟨f.2.toArray⟩ 0)) := by
  have hz := h2.size
  have hz3 := h3.size
  have hb3 : Below w.heap.size w w3 := h2.trans (h3.mono hz)
  refine ⟨?_, ?_, ?_, ?_, by omega⟩
  · have h := own_made1 (w3.alloc (.cells #[strV f.1, strV f.2] 49)) (base := w.heap.size) (g := w3.heap.size + 1) 9 (strV f.1) (by simp) (by omega)
    have h' := h.alloc (.stringIter ⟨f.2.toArray⟩ 0)
    rw [show partVs f x 0 = [strV f.1] by simp [partVs]]
    exact h'
  · have h := World.iter_heap ((w3.alloc (.cells #[strV f.1, strV f.2] 49)).alloc (.cells #[strV f.1] 9)) ⟨f.2.toArray⟩ 0
    simpa using h
  · exact ((hb.alloc _).alloc _).alloc _
  · exact ((hb3.alloc hb3.size _).alloc (by simp; omega) _).alloc (by simp; omega) _
theorem parts_get {f : Str × Str} {x : StepV} {i : Nat} {y : Str} (h : (f.1 :: f.2.map (partT x))[i]? = some y) : (partVs f x f.2.length)[i]? = some (strV y) := by
  have e : partVs f x f.2.length = (f.1 :: f.2.map (partT x)).map strV := by simp [partVs]
  rw [e, List.getElem?_map, h]
  rfl
theorem dec_len (u : Nat) (h : u < 100000000000000000000) : (Lib.decDigits u).length ≤ 20 := by
  rw [Lib.decDigits_length]
  rcases Nat.lt_or_ge 20 (Lib.nDigits u) with h1 | h1
  · exfalso
    have h2 : ∀ n u, Lib.nDigits u = n + 1 → 10 ^ n ≤ u ∨ n = 0 := by
      intro n
      induction n with
      | zero => intro u _; exact .inr rfl
      | succ n ih =>
        intro u hu
        by_cases hs : u < 10
        · rw [Lib.nDigits_small hs] at hu; omega
        · rw [Lib.nDigits_big hs] at hu
          rcases ih (u / 10) (by omega) with h | h
          · left; rw [Nat.pow_succ]; omega
          · subst h; left; omega
    rcases h2 (Lib.nDigits u - 1) u (by omega) with h3 | h3
    · have h4 : 10 ^ 20 ≤ 10 ^ (Lib.nDigits u - 1) := Nat.pow_le_pow_right (by omega) (by omega)
      have h5 : (10 : Nat) ^ 20 = 100000000000000000000 := by decide
      omega
    · omega
  · exact h1
theorem itoa_len {n : Int} (h : Wf64 n) : (Lib.itoa n).length ≤ 21 := by
  unfold Lib.itoa
  split
  · have := dec_len n.natAbs (by have := h.1; omega)
    simp only [List.length_cons]
    omega
  · have := dec_len n.toNat (by have := h.2; omega)
    omega
theorem hexT_len (l : Str) : (hexT l).length = l.length + l.length + 1 := by rw [hexT, List.length_cons, hex_len]
theorem line_len {x : StepV} {f : Str × Str} (h : f ∈ formsT) (ha : Wf64 x.a) (hb : Wf64 x.b) : (f.1 ++ tailT x f.2).length ≤ 100 + 2 * x.key.length + 2 * x.data.length := by
  have h1 : ∀ f ∈ formsT, f.1.length ≤ 6 := by decide
  have h2 := (forms_facts f h).2.2
  have h3 := h1 f h
  have h4 := itoa_len ha
  have h5 := itoa_len hb
  have h6 := hexT_len x.key
  have h7 := hexT_len x.data
  simp only [kinds, List.mem_cons, List.not_mem_nil, or_false] at h2
  rcases h2 with h2 | h2 | h2 | h2 | h2 <;> rw [h2] <;> simp [tailT, partT] <;> omega
section
set_option maxHeartbeats 8000000
set_option maxRecDepth 100000
theorem tLine (x : StepV) (A : Option Addr) (c : Nat) (w : World) (hd : BytesIn w A x.data.length x.data) (ha : Wf64 x.a) (hb : Wf64 x.b) (he : Env w) (hs : x.key.length + x.data.length ≤ 1099511627776) :
    Calls Tryd.prog 9 #[stepV x A c] w fun e w' => e = .returned (lineV (lineT x)) ∧ Below w.heap.size w w' := by
  obtain ⟨i0, hi0, hz0, hz1, hz2⟩ := info_parts str_info
  obtain ⟨kind, a, b, key, data⟩ := x
  have HD := Lib.hid hd
  have HA := Lib.hid ha
  have HB := Lib.hid hb
  have HE := Lib.hid he
  simp only at hs
  clear hd ha hb he
  unfold stepV
  by_cases h1 : kind < 1
  · have d1 : decide (kind < 1) = true := by simpa using h1
    have hno : lineT ⟨kind, a, b, key, data⟩ = none := by simp only [lineT, formAt]; rw [if_neg (by omega)]
    rw [hno]
    clear hno
    go_enter Tryd.func9, Tryd.ntmps9
    go_wp2_with fail
    refine (tForms _).mono ?_
    rintro e w2 ⟨g, rfl, hg, hfm, hb2⟩
    have BX := Lib.hid (show Blk w2 w.heap.size 24 #[.int .i64 kind, .int .i64 a, .int .i64 b, strV key, .slice A data.length c] from (Blk.made w _ _).below hb2 (by simp))
    have c0 : w2.cell? ⟨w.heap.size, 0, none⟩ = some (.int .i64 kind) := BX.out.cell 0
    have B2 := Lib.hid (show Below w.heap.size w w2 from ((Below.refl _ w).alloc (Nat.le_refl _) _).trans (hb2.mono (by simp)))
    clear hfm hb2
    go_upto_region 2 with fail
    refine wp_region_held_drew (S := (fun w' => w'.cell? ⟨w.heap.size, 0, none⟩ = some (.int .i64 kind))) (by kernel_rfl) c0 (fun hHeld => ?_)
    refine wpAnyH_take (i := 0) (v := ?vLcn10) (take_list rfl) (by kernel_rfl) (by kernel_rfl) (by kernel_rfl) (fun _ _ _ h => h) (Or.inl ⟨by rfl, ?hyLcn10⟩) (by assumption) ?restLcn10
    case hyLcn10 => (intro w hSw; (try dsimp only at hSw); go_simp <;> with_reducible rfl)
    try simp only [Act.put, List.setIfInBounds_toArray, List.set_cons_zero, List.set_cons_succ]
    refine wpAnyH_take (i := 1) (v := ?vLcn11) (take_list rfl) (by kernel_rfl) (by kernel_rfl) (by kernel_rfl) (fun _ _ _ h => h) (Or.inl ⟨by rfl, ?hyLcn11⟩) (by assumption) ?restLcn11
    case hyLcn11 => (intro w hSw; (try dsimp only at hSw); go_simp <;> with_reducible rfl)
    try simp only [Act.put, List.setIfInBounds_toArray, List.set_cons_zero, List.set_cons_succ]
    refine wpAnyH_take (i := 2) (v := ?vLcn12) (take_list rfl) (by kernel_rfl) (by kernel_rfl) (by kernel_rfl) (fun _ _ _ h => h) (Or.inl ⟨by rfl, ?hyLcn12⟩) (by assumption) ?restLcn12
    case hyLcn12 => (intro w hSw; (try dsimp only at hSw); go_simp <;> with_reducible rfl)
    try simp only [Act.put, List.setIfInBounds_toArray, List.set_cons_zero, List.set_cons_succ]
    refine wpAnyH_take (i := 3) (v := ?vLcn13) (take_list rfl) (by kernel_rfl) (by kernel_rfl) (by kernel_rfl) (fun _ _ _ h => h) (Or.inl ⟨by rfl, ?hyLcn13⟩) (by assumption) ?restLcn13
    case hyLcn13 => (intro w hSw; (try dsimp only at hSw); go_simp <;> with_reducible rfl)
    try simp only [Act.put, List.setIfInBounds_toArray, List.set_cons_zero, List.set_cons_succ]
    refine wpAnyH_take (i := 4) (v := undef) (take_list rfl) (by kernel_rfl) (by kernel_rfl) (by kernel_rfl) (fun _ _ _ h => h) (Or.inr ⟨by rfl, rfl⟩) (by assumption) ?_
    try simp only [Act.put, List.setIfInBounds_toArray, List.set_cons_zero, List.set_cons_succ]
    refine wpAnyH_take (i := 5) (v := undef) (take_list rfl) (by kernel_rfl) (by kernel_rfl) (by kernel_rfl) (fun _ _ _ h => h) (Or.inr ⟨by rfl, rfl⟩) (by assumption) ?_
    try simp only [Act.put, List.setIfInBounds_toArray, List.set_cons_zero, List.set_cons_succ]
    refine wpAnyH_take (i := 6) (v := undef) (take_list rfl) (by kernel_rfl) (by kernel_rfl) (by kernel_rfl) (fun _ _ _ h => h) (Or.inr ⟨by rfl, rfl⟩) (by assumption) ?_
    try simp only [Act.put, List.setIfInBounds_toArray, List.set_cons_zero, List.set_cons_succ]
    refine wpAnyH_take (i := 7) (v := undef) (take_list rfl) (by kernel_rfl) (by kernel_rfl) (by kernel_rfl) (fun _ _ _ h => h) (Or.inr ⟨by rfl, rfl⟩) (by assumption) ?_
    try simp only [Act.put, List.setIfInBounds_toArray, List.set_cons_zero, List.set_cons_succ]
    refine wpAnyH_take (i := 8) (v := undef) (take_list rfl) (by kernel_rfl) (by kernel_rfl) (by kernel_rfl) (fun _ _ _ h => h) (Or.inr ⟨by rfl, rfl⟩) (by assumption) ?_
    try simp only [Act.put, List.setIfInBounds_toArray, List.set_cons_zero, List.set_cons_succ]
    refine wpAnyH_take (i := 9) (v := ?vLcn19) (take_list rfl) (by kernel_rfl) (by kernel_rfl) (by kernel_rfl) (fun _ _ _ h => h) (Or.inl ⟨by rfl, ?hyLcn19⟩) (by assumption) ?restLcn19
    case hyLcn19 => (intro w hSw; (try dsimp only at hSw); go_simp <;> with_reducible rfl)
    try simp only [Act.put, List.setIfInBounds_toArray, List.set_cons_zero, List.set_cons_succ]
    refine wpAnyH_take (i := 10) (v := ?vLcn110) (take_list rfl) (by kernel_rfl) (by kernel_rfl) (by kernel_rfl) (fun _ _ _ h => h) (Or.inl ⟨by rfl, ?hyLcn110⟩) (by assumption) ?restLcn110
    case hyLcn110 => (intro w hSw; (try dsimp only at hSw); go_simp <;> with_reducible rfl)
    try simp only [Act.put, List.setIfInBounds_toArray, List.set_cons_zero, List.set_cons_succ]
    refine wpAnyH_take (i := 11) (v := undef) (take_list rfl) (by kernel_rfl) (by kernel_rfl) (by kernel_rfl) (fun _ _ _ h => h) (Or.inr ⟨by rfl, rfl⟩) (by assumption) ?_
    try simp only [Act.put, List.setIfInBounds_toArray, List.set_cons_zero, List.set_cons_succ]
    refine wpAnyH_take (i := 12) (v := undef) (take_list rfl) (by kernel_rfl) (by kernel_rfl) (by kernel_rfl) (fun _ _ _ h => h) (Or.inr ⟨by rfl, rfl⟩) (by assumption) ?_
    try simp only [Act.put, List.setIfInBounds_toArray, List.set_cons_zero, List.set_cons_succ]
    refine wpAnyH_take (i := 13) (v := undef) (take_list rfl) (by kernel_rfl) (by kernel_rfl) (by kernel_rfl) (fun _ _ _ h => h) (Or.inr ⟨by rfl, rfl⟩) (by assumption) ?_
    try simp only [Act.put, List.setIfInBounds_toArray, List.set_cons_zero, List.set_cons_succ]
    refine wpAnyH_take (i := 14) (v := undef) (take_list rfl) (by kernel_rfl) (by kernel_rfl) (by kernel_rfl) (fun _ _ _ h => h) (Or.inr ⟨by rfl, rfl⟩) (by assumption) ?_
    try simp only [Act.put, List.setIfInBounds_toArray, List.set_cons_zero, List.set_cons_succ]
    refine wpAnyH_take (i := 15) (v := undef) (take_list rfl) (by kernel_rfl) (by kernel_rfl) (by kernel_rfl) (fun _ _ _ h => h) (Or.inr ⟨by rfl, rfl⟩) (by assumption) ?_
    try simp only [Act.put, List.setIfInBounds_toArray, List.set_cons_zero, List.set_cons_succ]
    refine wpAnyH_take (i := 16) (v := undef) (take_list rfl) (by kernel_rfl) (by kernel_rfl) (by kernel_rfl) (fun _ _ _ h => h) (Or.inr ⟨by rfl, rfl⟩) (by assumption) ?_
    try simp only [Act.put, List.setIfInBounds_toArray, List.set_cons_zero, List.set_cons_succ]
    refine wpAnyH_take (i := 17) (v := undef) (take_list rfl) (by kernel_rfl) (by kernel_rfl) (by kernel_rfl) (fun _ _ _ h => h) (Or.inr ⟨by rfl, rfl⟩) (by assumption) ?_
    try simp only [Act.put, List.setIfInBounds_toArray, List.set_cons_zero, List.set_cons_succ]
    refine wpAnyH_take (i := 18) (v := undef) (take_list rfl) (by kernel_rfl) (by kernel_rfl) (by kernel_rfl) (fun _ _ _ h => h) (Or.inr ⟨by rfl, rfl⟩) (by assumption) ?_
    try simp only [Act.put, List.setIfInBounds_toArray, List.set_cons_zero, List.set_cons_succ]
    refine wpAnyH_take (i := 19) (v := undef) (take_list rfl) (by kernel_rfl) (by kernel_rfl) (by kernel_rfl) (fun _ _ _ h => h) (Or.inr ⟨by rfl, rfl⟩) (by assumption) ?_
    try simp only [Act.put, List.setIfInBounds_toArray, List.set_cons_zero, List.set_cons_succ]
    refine wpAnyH_take (i := 20) (v := ?vLcn120) (take_list rfl) (by kernel_rfl) (by kernel_rfl) (by kernel_rfl) (fun _ _ _ h => h) (Or.inl ⟨by rfl, ?hyLcn120⟩) (by assumption) ?restLcn120
    case hyLcn120 => (intro w hSw; (try dsimp only at hSw); go_simp <;> with_reducible rfl)
    try simp only [Act.put, List.setIfInBounds_toArray, List.set_cons_zero, List.set_cons_succ]
    refine wpAnyH_done (by kernel_rfl) ?_ _
    go_wp2_with fail
    go_ret2
    exact ⟨rfl, below_drewN B2.out 1⟩
  by_cases h2 : 19 < kind
  · have d1 : decide (kind < 1) = false := by simpa using h1
    have d2 : decide ((19 : Int) < kind) = true := by simpa using h2
    have hno : lineT ⟨kind, a, b, key, data⟩ = none := by
      simp only [lineT, formAt]
      rw [if_pos (by omega), List.getElem?_eq_none (by rw [forms_len]; omega)]
    rw [hno]
    clear hno
    go_enter Tryd.func9, Tryd.ntmps9
    go_wp2_with fail
    refine (tForms _).mono ?_
    rintro e w2 ⟨g, rfl, hg, hfm, hb2⟩
    have BX := Lib.hid (show Blk w2 w.heap.size 24 #[.int .i64 kind, .int .i64 a, .int .i64 b, strV key, .slice A data.length c] from (Blk.made w _ _).below hb2 (by simp))
    have c0 : w2.cell? ⟨w.heap.size, 0, none⟩ = some (.int .i64 kind) := BX.out.cell 0
    have B2 := Lib.hid (show Below w.heap.size w w2 from ((Below.refl _ w).alloc (Nat.le_refl _) _).trans (hb2.mono (by simp)))
    clear hfm hb2
    go_upto_region 2 with fail
    refine wp_region_held_drew (S := (fun w' => w'.cell? ⟨w.heap.size, 0, none⟩ = some (.int .i64 kind))) (by kernel_rfl) c0 (fun hHeld => ?_)
    refine wpAnyH_take (i := 0) (v := ?vLdn20) (take_list rfl) (by kernel_rfl) (by kernel_rfl) (by kernel_rfl) (fun _ _ _ h => h) (Or.inl ⟨by rfl, ?hyLdn20⟩) (by assumption) ?restLdn20
    case hyLdn20 => (intro w hSw; (try dsimp only at hSw); go_simp <;> with_reducible rfl)
    try simp only [Act.put, List.setIfInBounds_toArray, List.set_cons_zero, List.set_cons_succ]
    refine wpAnyH_take (i := 1) (v := ?vLdn21) (take_list rfl) (by kernel_rfl) (by kernel_rfl) (by kernel_rfl) (fun _ _ _ h => h) (Or.inl ⟨by rfl, ?hyLdn21⟩) (by assumption) ?restLdn21
    case hyLdn21 => (intro w hSw; (try dsimp only at hSw); go_simp <;> with_reducible rfl)
    try simp only [Act.put, List.setIfInBounds_toArray, List.set_cons_zero, List.set_cons_succ]
    refine wpAnyH_take (i := 2) (v := ?vLdn22) (take_list rfl) (by kernel_rfl) (by kernel_rfl) (by kernel_rfl) (fun _ _ _ h => h) (Or.inl ⟨by rfl, ?hyLdn22⟩) (by assumption) ?restLdn22
    case hyLdn22 => (intro w hSw; (try dsimp only at hSw); go_simp <;> with_reducible rfl)
    try simp only [Act.put, List.setIfInBounds_toArray, List.set_cons_zero, List.set_cons_succ]
    refine wpAnyH_take (i := 3) (v := ?vLdn23) (take_list rfl) (by kernel_rfl) (by kernel_rfl) (by kernel_rfl) (fun _ _ _ h => h) (Or.inl ⟨by rfl, ?hyLdn23⟩) (by assumption) ?restLdn23
    case hyLdn23 => (intro w hSw; (try dsimp only at hSw); go_simp <;> with_reducible rfl)
    try simp only [Act.put, List.setIfInBounds_toArray, List.set_cons_zero, List.set_cons_succ]
    refine wpAnyH_take (i := 4) (v := ?vLdn24) (take_list rfl) (by kernel_rfl) (by kernel_rfl) (by kernel_rfl) (fun _ _ _ h => h) (Or.inl ⟨by rfl, ?hyLdn24⟩) (by assumption) ?restLdn24
    case hyLdn24 => (intro w hSw; (try dsimp only at hSw); go_simp <;> with_reducible rfl)
    try simp only [Act.put, List.setIfInBounds_toArray, List.set_cons_zero, List.set_cons_succ]
    refine wpAnyH_take (i := 5) (v := ?vLdn25) (take_list rfl) (by kernel_rfl) (by kernel_rfl) (by kernel_rfl) (fun _ _ _ h => h) (Or.inl ⟨by rfl, ?hyLdn25⟩) (by assumption) ?restLdn25
    case hyLdn25 => (intro w hSw; (try dsimp only at hSw); go_simp <;> with_reducible rfl)
    try simp only [Act.put, List.setIfInBounds_toArray, List.set_cons_zero, List.set_cons_succ]
    refine wpAnyH_take (i := 6) (v := ?vLdn26) (take_list rfl) (by kernel_rfl) (by kernel_rfl) (by kernel_rfl) (fun _ _ _ h => h) (Or.inl ⟨by rfl, ?hyLdn26⟩) (by assumption) ?restLdn26
    case hyLdn26 => (intro w hSw; (try dsimp only at hSw); go_simp <;> with_reducible rfl)
    try simp only [Act.put, List.setIfInBounds_toArray, List.set_cons_zero, List.set_cons_succ]
    refine wpAnyH_take (i := 7) (v := ?vLdn27) (take_list rfl) (by kernel_rfl) (by kernel_rfl) (by kernel_rfl) (fun _ _ _ h => h) (Or.inl ⟨by rfl, ?hyLdn27⟩) (by assumption) ?restLdn27
    case hyLdn27 => (intro w hSw; (try dsimp only at hSw); go_simp <;> with_reducible rfl)
    try simp only [Act.put, List.setIfInBounds_toArray, List.set_cons_zero, List.set_cons_succ]
    refine wpAnyH_take (i := 8) (v := ?vLdn28) (take_list rfl) (by kernel_rfl) (by kernel_rfl) (by kernel_rfl) (fun _ _ _ h => h) (Or.inl ⟨by rfl, ?hyLdn28⟩) (by assumption) ?restLdn28
    case hyLdn28 => (intro w hSw; (try dsimp only at hSw); go_simp <;> with_reducible rfl)
    try simp only [Act.put, List.setIfInBounds_toArray, List.set_cons_zero, List.set_cons_succ]
    refine wpAnyH_take (i := 9) (v := ?vLdn29) (take_list rfl) (by kernel_rfl) (by kernel_rfl) (by kernel_rfl) (fun _ _ _ h => h) (Or.inl ⟨by rfl, ?hyLdn29⟩) (by assumption) ?restLdn29
    case hyLdn29 => (intro w hSw; (try dsimp only at hSw); go_simp <;> with_reducible rfl)
    try simp only [Act.put, List.setIfInBounds_toArray, List.set_cons_zero, List.set_cons_succ]
    refine wpAnyH_take (i := 10) (v := ?vLdn210) (take_list rfl) (by kernel_rfl) (by kernel_rfl) (by kernel_rfl) (fun _ _ _ h => h) (Or.inl ⟨by rfl, ?hyLdn210⟩) (by assumption) ?restLdn210
    case hyLdn210 => (intro w hSw; (try dsimp only at hSw); go_simp <;> with_reducible rfl)
    try simp only [Act.put, List.setIfInBounds_toArray, List.set_cons_zero, List.set_cons_succ]
    refine wpAnyH_take (i := 11) (v := undef) (take_list rfl) (by kernel_rfl) (by kernel_rfl) (by kernel_rfl) (fun _ _ _ h => h) (Or.inr ⟨by rfl, rfl⟩) (by assumption) ?_
    try simp only [Act.put, List.setIfInBounds_toArray, List.set_cons_zero, List.set_cons_succ]
    refine wpAnyH_take (i := 12) (v := undef) (take_list rfl) (by kernel_rfl) (by kernel_rfl) (by kernel_rfl) (fun _ _ _ h => h) (Or.inr ⟨by rfl, rfl⟩) (by assumption) ?_
    try simp only [Act.put, List.setIfInBounds_toArray, List.set_cons_zero, List.set_cons_succ]
    refine wpAnyH_take (i := 13) (v := undef) (take_list rfl) (by kernel_rfl) (by kernel_rfl) (by kernel_rfl) (fun _ _ _ h => h) (Or.inr ⟨by rfl, rfl⟩) (by assumption) ?_
    try simp only [Act.put, List.setIfInBounds_toArray, List.set_cons_zero, List.set_cons_succ]
    refine wpAnyH_take (i := 14) (v := undef) (take_list rfl) (by kernel_rfl) (by kernel_rfl) (by kernel_rfl) (fun _ _ _ h => h) (Or.inr ⟨by rfl, rfl⟩) (by assumption) ?_
    try simp only [Act.put, List.setIfInBounds_toArray, List.set_cons_zero, List.set_cons_succ]
    refine wpAnyH_take (i := 15) (v := undef) (take_list rfl) (by kernel_rfl) (by kernel_rfl) (by kernel_rfl) (fun _ _ _ h => h) (Or.inr ⟨by rfl, rfl⟩) (by assumption) ?_
    try simp only [Act.put, List.setIfInBounds_toArray, List.set_cons_zero, List.set_cons_succ]
    refine wpAnyH_take (i := 16) (v := undef) (take_list rfl) (by kernel_rfl) (by kernel_rfl) (by kernel_rfl) (fun _ _ _ h => h) (Or.inr ⟨by rfl, rfl⟩) (by assumption) ?_
    try simp only [Act.put, List.setIfInBounds_toArray, List.set_cons_zero, List.set_cons_succ]
    refine wpAnyH_take (i := 17) (v := undef) (take_list rfl) (by kernel_rfl) (by kernel_rfl) (by kernel_rfl) (fun _ _ _ h => h) (Or.inr ⟨by rfl, rfl⟩) (by assumption) ?_
    try simp only [Act.put, List.setIfInBounds_toArray, List.set_cons_zero, List.set_cons_succ]
    refine wpAnyH_take (i := 18) (v := undef) (take_list rfl) (by kernel_rfl) (by kernel_rfl) (by kernel_rfl) (fun _ _ _ h => h) (Or.inr ⟨by rfl, rfl⟩) (by assumption) ?_
    try simp only [Act.put, List.setIfInBounds_toArray, List.set_cons_zero, List.set_cons_succ]
    refine wpAnyH_take (i := 19) (v := undef) (take_list rfl) (by kernel_rfl) (by kernel_rfl) (by kernel_rfl) (fun _ _ _ h => h) (Or.inr ⟨by rfl, rfl⟩) (by assumption) ?_
    try simp only [Act.put, List.setIfInBounds_toArray, List.set_cons_zero, List.set_cons_succ]
    refine wpAnyH_take (i := 20) (v := ?vLdn220) (take_list rfl) (by kernel_rfl) (by kernel_rfl) (by kernel_rfl) (fun _ _ _ h => h) (Or.inl ⟨by rfl, ?hyLdn220⟩) (by assumption) ?restLdn220
    case hyLdn220 => (intro w hSw; (try dsimp only at hSw); go_simp <;> with_reducible rfl)
    try simp only [Act.put, List.setIfInBounds_toArray, List.set_cons_zero, List.set_cons_succ]
    refine wpAnyH_done (by kernel_rfl) ?_ _
    go_wp2_with fail
    go_ret2
    exact ⟨rfl, below_drewN B2.out 1⟩
  obtain ⟨k, hk, rfl⟩ : ∃ k : Nat, k < 19 ∧ kind = (k : Int) + 1 := ⟨(kind - 1).toNat, by omega, by omega⟩
  obtain ⟨f, hf⟩ := forms_get hk
  have HF := Lib.hid hf
  have d1 : decide ((k : Int) + 1 < 1) = false := by simp; omega
  have d2 : decide ((19 : Int) < (k : Int) + 1) = false := by simp; omega
  have e1 : IntKind.i64.wrap (k : Int) = (k : Int) := IntWalk.i64_in _ (by omega)
  have e2 : (0 : Int) ≤ (k : Int) := by omega
  have hline : lineT ⟨(k : Int) + 1, a, b, key, data⟩ = if fitsT f.2 ⟨(k : Int) + 1, a, b, key, data⟩ then some (f.1 ++ tailT ⟨(k : Int) + 1, a, b, key, data⟩ f.2) else none := by
    have h : formAt ((k : Int) + 1) = some f := by
      unfold formAt
      rw [if_pos (by omega), show ((k : Int) + 1 - 1).toNat = k by omega]
      exact hf
    simp only [lineT, h]
  have hkz : (k : Int) < 19 := by omega
  rw [hline]
  clear hline hf h1 h2
  by_cases hft : fitsT f.2 ⟨(k : Int) + 1, a, b, key, data⟩ = true
  · rw [if_pos hft]
    have FT := Lib.hid hft
    clear hft
    go_enter Tryd.func9, Tryd.ntmps9
    go_wp2_with fail
    refine (tForms _).mono ?_
    rintro e w2 ⟨g, rfl, hg, hfm, hb2⟩
    have BX := Lib.hid (show Blk w2 w.heap.size 24 #[.int .i64 ((k : Int) + 1), .int .i64 a, .int .i64 b, strV key, .slice A data.length c] from (Blk.made w _ _).below hb2 (by simp))
    have FM := Lib.hid hfm
    have B2 := Lib.hid (show Below w.heap.size w w2 from ((Below.refl _ w).alloc (Nat.le_refl _) _).trans (hb2.mono (by simp)))
    clear hfm hb2
    go_upto_region 2 with fail
    refine wp_region_held_drew (S := (fun w' => w'.cell? ⟨w.heap.size, 0, none⟩ = some (.int .i64 ((k : Int) + 1)) ∧ w'.cell? ⟨w.heap.size, 1, none⟩ = some (.int .i64 a) ∧ w'.cell? ⟨w.heap.size, 2, none⟩ = some (.int .i64 b) ∧ w'.cell? ⟨w.heap.size, 3, none⟩ = some (strV key) ∧ w'.cell? ⟨w.heap.size, 4, none⟩ = some (.slice A data.length c) ∧ w'.cell? ⟨g, k * 2, none⟩ = some (strV f.1) ∧ w'.cell? ⟨g, k * 2 + 1, none⟩ = some (strV f.2))) (by kernel_rfl) ⟨BX.out.cell 0, BX.out.cell 1, BX.out.cell 2, BX.out.cell 3, BX.out.cell 4, (FM.out.2 k f HF.out).1, (FM.out.2 k f HF.out).2⟩ (fun hHeld => ?_)
    refine wpAnyH_take (i := 0) (v := ?vLbn30) (take_list rfl) (by kernel_rfl) (by kernel_rfl) (by kernel_rfl) (fun _ _ _ h => h) (Or.inl ⟨by rfl, ?hyLbn30⟩) (by assumption) ?restLbn30
    case hyLbn30 => (intro w hSw; (try dsimp only at hSw); go_simp <;> with_reducible rfl)
    try simp only [Act.put, List.setIfInBounds_toArray, List.set_cons_zero, List.set_cons_succ]
    refine wpAnyH_take (i := 1) (v := ?vLbn31) (take_list rfl) (by kernel_rfl) (by kernel_rfl) (by kernel_rfl) (fun _ _ _ h => h) (Or.inl ⟨by rfl, ?hyLbn31⟩) (by assumption) ?restLbn31
    case hyLbn31 => (intro w hSw; (try dsimp only at hSw); go_simp <;> with_reducible rfl)
    try simp only [Act.put, List.setIfInBounds_toArray, List.set_cons_zero, List.set_cons_succ]
    refine wpAnyH_take (i := 2) (v := ?vLbn32) (take_list rfl) (by kernel_rfl) (by kernel_rfl) (by kernel_rfl) (fun _ _ _ h => h) (Or.inl ⟨by rfl, ?hyLbn32⟩) (by assumption) ?restLbn32
    case hyLbn32 => (intro w hSw; (try dsimp only at hSw); go_simp <;> with_reducible rfl)
    try simp only [Act.put, List.setIfInBounds_toArray, List.set_cons_zero, List.set_cons_succ]
    refine wpAnyH_take (i := 3) (v := ?vLbn33) (take_list rfl) (by kernel_rfl) (by kernel_rfl) (by kernel_rfl) (fun _ _ _ h => h) (Or.inl ⟨by rfl, ?hyLbn33⟩) (by assumption) ?restLbn33
    case hyLbn33 => (intro w hSw; (try dsimp only at hSw); go_simp <;> with_reducible rfl)
    try simp only [Act.put, List.setIfInBounds_toArray, List.set_cons_zero, List.set_cons_succ]
    refine wpAnyH_take (i := 4) (v := ?vLbn34) (take_list rfl) (by kernel_rfl) (by kernel_rfl) (by kernel_rfl) (fun _ _ _ h => h) (Or.inl ⟨by rfl, ?hyLbn34⟩) (by assumption) ?restLbn34
    case hyLbn34 => (intro w hSw; (try dsimp only at hSw); go_simp <;> with_reducible rfl)
    try simp only [Act.put, List.setIfInBounds_toArray, List.set_cons_zero, List.set_cons_succ]
    refine wpAnyH_take (i := 5) (v := ?vLbn35) (take_list rfl) (by kernel_rfl) (by kernel_rfl) (by kernel_rfl) (fun _ _ _ h => h) (Or.inl ⟨by rfl, ?hyLbn35⟩) (by assumption) ?restLbn35
    case hyLbn35 => (intro w hSw; (try dsimp only at hSw); go_simp <;> with_reducible rfl)
    try simp only [Act.put, List.setIfInBounds_toArray, List.set_cons_zero, List.set_cons_succ]
    refine wpAnyH_take (i := 6) (v := ?vLbn36) (take_list rfl) (by kernel_rfl) (by kernel_rfl) (by kernel_rfl) (fun _ _ _ h => h) (Or.inl ⟨by rfl, ?hyLbn36⟩) (by assumption) ?restLbn36
    case hyLbn36 => (intro w hSw; (try dsimp only at hSw); go_simp <;> with_reducible rfl)
    try simp only [Act.put, List.setIfInBounds_toArray, List.set_cons_zero, List.set_cons_succ]
    refine wpAnyH_take (i := 7) (v := ?vLbn37) (take_list rfl) (by kernel_rfl) (by kernel_rfl) (by kernel_rfl) (fun _ _ _ h => h) (Or.inl ⟨by rfl, ?hyLbn37⟩) (by assumption) ?restLbn37
    case hyLbn37 => (intro w hSw; (try dsimp only at hSw); go_simp <;> with_reducible rfl)
    try simp only [Act.put, List.setIfInBounds_toArray, List.set_cons_zero, List.set_cons_succ]
    refine wpAnyH_take (i := 8) (v := ?vLbn38) (take_list rfl) (by kernel_rfl) (by kernel_rfl) (by kernel_rfl) (fun _ _ _ h => h) (Or.inl ⟨by rfl, ?hyLbn38⟩) (by assumption) ?restLbn38
    case hyLbn38 => (intro w hSw; (try dsimp only at hSw); go_simp <;> with_reducible rfl)
    try simp only [Act.put, List.setIfInBounds_toArray, List.set_cons_zero, List.set_cons_succ]
    refine wpAnyH_take (i := 9) (v := ?vLbn39) (take_list rfl) (by kernel_rfl) (by kernel_rfl) (by kernel_rfl) (fun _ _ _ h => h) (Or.inl ⟨by rfl, ?hyLbn39⟩) (by assumption) ?restLbn39
    case hyLbn39 => (intro w hSw; (try dsimp only at hSw); go_simp <;> with_reducible rfl)
    try simp only [Act.put, List.setIfInBounds_toArray, List.set_cons_zero, List.set_cons_succ]
    refine wpAnyH_take (i := 10) (v := ?vLbn310) (take_list rfl) (by kernel_rfl) (by kernel_rfl) (by kernel_rfl) (fun _ _ _ h => h) (Or.inl ⟨by rfl, ?hyLbn310⟩) (by assumption) ?restLbn310
    case hyLbn310 => (intro w hSw; (try dsimp only at hSw); go_simp <;> with_reducible rfl)
    try simp only [Act.put, List.setIfInBounds_toArray, List.set_cons_zero, List.set_cons_succ]
    refine wpAnyH_take (i := 11) (v := ?vLbn311) (take_list rfl) (by kernel_rfl) (by kernel_rfl) (by kernel_rfl) (fun _ _ _ h => h) (Or.inl ⟨by rfl, ?hyLbn311⟩) (by assumption) ?restLbn311
    case hyLbn311 => (intro w hSw; (try dsimp only at hSw); go_simp <;> with_reducible rfl)
    try simp only [Act.put, List.setIfInBounds_toArray, List.set_cons_zero, List.set_cons_succ]
    refine wpAnyH_take (i := 12) (v := ?vLbn312) (take_list rfl) (by kernel_rfl) (by kernel_rfl) (by kernel_rfl) (fun _ _ _ h => h) (Or.inl ⟨by rfl, ?hyLbn312⟩) (by assumption) ?restLbn312
    case hyLbn312 => (intro w hSw; (try dsimp only at hSw); go_simp <;> with_reducible rfl)
    try simp only [Act.put, List.setIfInBounds_toArray, List.set_cons_zero, List.set_cons_succ]
    refine wpAnyH_take (i := 13) (v := ?vLbn313) (take_list rfl) (by kernel_rfl) (by kernel_rfl) (by kernel_rfl) (fun _ _ _ h => h) (Or.inl ⟨by rfl, ?hyLbn313⟩) (by assumption) ?restLbn313
    case hyLbn313 => (intro w hSw; (try dsimp only at hSw); go_simp <;> with_reducible rfl)
    try simp only [Act.put, List.setIfInBounds_toArray, List.set_cons_zero, List.set_cons_succ]
    refine wpAnyH_take (i := 14) (v := ?vLbn314) (take_list rfl) (by kernel_rfl) (by kernel_rfl) (by kernel_rfl) (fun _ _ _ h => h) (Or.inl ⟨by rfl, ?hyLbn314⟩) (by assumption) ?restLbn314
    case hyLbn314 => (intro w hSw; (try dsimp only at hSw); go_simp <;> with_reducible rfl)
    try simp only [Act.put, List.setIfInBounds_toArray, List.set_cons_zero, List.set_cons_succ]
    refine wpAnyH_take (i := 15) (v := ?vLbn315) (take_list rfl) (by kernel_rfl) (by kernel_rfl) (by kernel_rfl) (fun _ _ _ h => h) (Or.inl ⟨by rfl, ?hyLbn315⟩) (by assumption) ?restLbn315
    case hyLbn315 => (intro w hSw; (try dsimp only at hSw); go_simp <;> with_reducible rfl)
    try simp only [Act.put, List.setIfInBounds_toArray, List.set_cons_zero, List.set_cons_succ]
    refine wpAnyH_take (i := 16) (v := ?vLbn316) (take_list rfl) (by kernel_rfl) (by kernel_rfl) (by kernel_rfl) (fun _ _ _ h => h) (Or.inl ⟨by rfl, ?hyLbn316⟩) (by assumption) ?restLbn316
    case hyLbn316 => (intro w hSw; (try dsimp only at hSw); go_simp <;> with_reducible rfl)
    try simp only [Act.put, List.setIfInBounds_toArray, List.set_cons_zero, List.set_cons_succ]
    refine wpAnyH_take (i := 17) (v := ?vLbn317) (take_list rfl) (by kernel_rfl) (by kernel_rfl) (by kernel_rfl) (fun _ _ _ h => h) (Or.inl ⟨by rfl, ?hyLbn317⟩) (by assumption) ?restLbn317
    case hyLbn317 => (intro w hSw; (try dsimp only at hSw); go_simp <;> with_reducible rfl)
    try simp only [Act.put, List.setIfInBounds_toArray, List.set_cons_zero, List.set_cons_succ]
    refine wpAnyH_ready (rs := [18]) (by kernel_rfl) (by simp) ?_
    refine AllReadyH.cons rfl (fun K hK => ?_) AllReadyH.nil
    go_simp
    go_wp2_with (go_at_call 18; refine (tFits f ⟨(k : Int) + 1, a, b, key, data⟩ A c _).mono ?_; rintro e w3 ⟨rfl, hb3⟩; have hb3' : Below w2.heap.size w2 w3 := ⟨hb3.os, hb3.tape, hb3.output, hb3.size, hb3.block⟩; have B3 := Lib.hid hb3'; have S3 := Lib.hid (show Blk w3 w.heap.size 24 #[.int .i64 ((k : Int) + 1), .int .i64 a, .int .i64 b, strV key, .slice A data.length c] from BX.out.below hb3' BX.out.size); have F3 := Lib.hid (FM.out.below hb3'); rw [FT.out]; clear hb3 hb3')
    clear hHeld
    refine hK.out _ _ ⟨S3.out.cell 0, S3.out.cell 1, S3.out.cell 2, S3.out.cell 3, S3.out.cell 4, (F3.out.2 k f HF.out).1, (F3.out.2 k f HF.out).2⟩ (fun hHeld => ?_)
    clear hK K
    refine wpAnyH_take (i := 19) (v := ?vLbn319) (take_list rfl) (by kernel_rfl) (by kernel_rfl) (by kernel_rfl) (fun _ _ _ h => h) (Or.inl ⟨by rfl, ?hyLbn319⟩) (by assumption) ?restLbn319
    case hyLbn319 => (intro w hSw; (try dsimp only at hSw); go_simp <;> with_reducible rfl)
    try simp only [Act.put, List.setIfInBounds_toArray, List.set_cons_zero, List.set_cons_succ]
    refine wpAnyH_take (i := 20) (v := ?vLbn320) (take_list rfl) (by kernel_rfl) (by kernel_rfl) (by kernel_rfl) (fun _ _ _ h => h) (Or.inl ⟨by rfl, ?hyLbn320⟩) (by assumption) ?restLbn320
    case hyLbn320 => (intro w hSw; (try dsimp only at hSw); go_simp <;> with_reducible rfl)
    try simp only [Act.put, List.setIfInBounds_toArray, List.set_cons_zero, List.set_cons_succ]
    refine wpAnyH_done (by kernel_rfl) ?_ _
    go_wp2_with fail
    have L0 := Lib.hid (show LineAt w (w3.heap.size + 1 + 1) f.2 #[.int .i64 ((k : Int) + 1), .int .i64 a, .int .i64 b, strV key, .slice A data.length c] (partVs f ⟨(k : Int) + 1, a, b, key, data⟩ 0) 1 (.slice (some ⟨w3.heap.size + 1, 0, none⟩) 1 1) 0 ((((w3.alloc (.cells #[strV f.1, strV f.2] 49)).alloc (.cells #[strV f.1] 9)).iter ⟨f.2.toArray⟩ 0)) from line_start B2.out B3.out S3.out)
    go_loopw [6] (fun ov wr => ∃ (j g1 cap : Nat), ov = .slice (some ⟨g1, 0, none⟩) (j + 1) cap ∧ j ≤ f.2.length ∧ LineAt w (w3.heap.size + 1 + 1) f.2 #[.int .i64 ((k : Int) + 1), .int .i64 a, .int .i64 b, strV key, .slice A data.length c] (partVs f ⟨(k : Int) + 1, a, b, key, data⟩ j) (j + 1) ov j wr) (fun _ wr => f.2.length - wr.iterPos (w3.heap.size + 1 + 1))
    case atStart => exact ⟨0, _, _, rfl, Nat.zero_le _, L0.out⟩
    case round =>
      obtain ⟨j, g1, cap, rfl, hj, hla⟩ := hrel
      have LR := Lib.hid hla
      clear hla L0 hHeld BX FM
      generalize w3.heap.size + 1 + 1 = it at *
      have hit : it < wr.heap.size := LR.out.lt
      by_cases hlt : j < f.2.length
      · obtain ⟨ch, hch⟩ : ∃ ch, f.2[j]? = some ch := ⟨_, List.getElem?_eq_getElem hlt⟩
        have hcl := kinds_mem f.2 (forms_facts f (List.mem_of_getElem? HF.out)).2.2 ch (List.mem_of_getElem? hch)
        have PS := Lib.hid (partVs_succ (x := ⟨(k : Int) + 1, a, b, key, data⟩) hch)
        obtain ⟨wn, hwn⟩ : ∃ wn, wr.iterAt it ⟨f.2.toArray⟩ (j + 1) = wn := ⟨_, rfl⟩
        have hnx : ∀ ty, (Instr.next (.pointer (some ⟨it, 0, none⟩)) true ty).run Tryd.prog wr = .ok (.tuple #[.bool true, .int .i64 j, .int .i32 (ch.toNat : Int)]) wn := fun ty => by
          rw [next_at LR.out.iter hch (by rcases hcl with rfl | rfl | rfl | rfl <;> decide) ty, hwn]
        have LN := Lib.hid (show LineAt w it f.2 #[.int .i64 ((k : Int) + 1), .int .i64 a, .int .i64 b, strV key, .slice A data.length c] (partVs f ⟨(k : Int) + 1, a, b, key, data⟩ j) (j + 1) (.slice (some ⟨g1, 0, none⟩) (j + 1) cap) (j + 1) wn by rw [← hwn]; exact LR.out.next)
        have hj2 : j + 1 ≤ 1000 := by
          have h1 := (forms_facts f (List.mem_of_getElem? HF.out)).2.2
          have h2 : ∀ h ∈ kinds, h.length ≤ 2 := by decide
          have := h2 _ h1
          omega
        clear hch hwn
        rcases hcl with rfl | rfl | rfl | rfl
        · have hpt : partT ⟨(k : Int) + 1, a, b, key, data⟩ 107 = hexT key := rfl
          rw [hpt] at PS
          clear hpt
          obtain ⟨wc, kc, hcv, hbi, hbc, hlc⟩ := conv_bytes wn key
          have CV := Lib.hid hbi
          have BC := Lib.hid hbc
          have LC := Lib.hid (LN.out.below hbc)
          have c3 : wn.cell? ⟨w.heap.size, 3, none⟩ = some (strV key) := LN.out.box.cell 3
          clear hbi hbc
          go_wp2_with (first
          | (go_at_call 19; refine (tHex _ _ _ key wc CV.out (by omega)).mono ?_; rintro e w5 ⟨rfl, hb5⟩; have L5 := Lib.hid (LC.out.below hb5); clear hb5)
          | (at_builtin
             refine wpList_append_live _ rfl _ _ 50 rfl w.heap.size 9 i0 _ 1 16 Tryd.underlying50 hi0 hz0 hz1 hz2 rfl (by omega) g1 (j + 1) cap (partVs f ⟨(k : Int) + 1, a, b, key, data⟩ j) rfl (by exact L5.out.row.alloc _) w5.heap.size 0 1 1 [strV (hexT key)] rfl rfl (by exact src_new w5 [strV (hexT key)] 9 1) (by intro u hu; rw [List.mem_singleton] at hu; subst hu; rfl) (by simp only [maxLen]; omega) (by omega) (by have := L5.out.base.size; simp; omega) ?_
             intro g2 cap2 w6 hown6 hg6 hat6 hlt6
             have O6 := Lib.hid hown6
             have G6 := Lib.hid hg6
             clear hown6 hg6 hat6))
          go_roundw
          case rel => exact ⟨j + 1, g2, cap2, rfl, by omega, by rw [PS.out]; exact L5.out.more O6.out G6.out⟩
          case measure =>
            have hm := (L5.out.more O6.out G6.out).iter
            simp only [World.iterPos, hm, LR.out.iter]
            omega
        · have hpt : partT ⟨(k : Int) + 1, a, b, key, data⟩ 100 = hexT data := rfl
          rw [hpt] at PS
          clear hpt
          have c4 : wn.cell? ⟨w.heap.size, 4, none⟩ = some (.slice A data.length c) := LN.out.box.cell 4
          have CV := Lib.hid (show BytesIn wn A data.length data from HD.out.below LN.out.base)
          go_wp2_with (first
          | (go_at_call 19; refine (tHex _ _ _ data wn CV.out (by omega)).mono ?_; rintro e w5 ⟨rfl, hb5⟩; have L5 := Lib.hid (LN.out.below hb5); clear hb5)
          | (at_builtin
             refine wpList_append_live _ rfl _ _ 50 rfl w.heap.size 9 i0 _ 1 16 Tryd.underlying50 hi0 hz0 hz1 hz2 rfl (by omega) g1 (j + 1) cap (partVs f ⟨(k : Int) + 1, a, b, key, data⟩ j) rfl (by exact L5.out.row.alloc _) w5.heap.size 0 1 1 [strV (hexT data)] rfl rfl (by exact src_new w5 [strV (hexT data)] 9 1) (by intro u hu; rw [List.mem_singleton] at hu; subst hu; rfl) (by simp only [maxLen]; omega) (by omega) (by have := L5.out.base.size; simp; omega) ?_
             intro g2 cap2 w6 hown6 hg6 hat6 hlt6
             have O6 := Lib.hid hown6
             have G6 := Lib.hid hg6
             clear hown6 hg6 hat6))
          go_roundw
          case rel => exact ⟨j + 1, g2, cap2, rfl, by omega, by rw [PS.out]; exact L5.out.more O6.out G6.out⟩
          case measure =>
            have hm := (L5.out.more O6.out G6.out).iter
            simp only [World.iterPos, hm, LR.out.iter]
            omega
        · have hpt : partT ⟨(k : Int) + 1, a, b, key, data⟩ 97 = Lib.itoa a := rfl
          rw [hpt] at PS
          clear hpt
          have c1 : wn.cell? ⟨w.heap.size, 1, none⟩ = some (.int .i64 a) := LN.out.box.cell 1
          go_wp2_with (first
          | (go_at_call 20; refine (tItoa a wn HA.out (HE.out.below LN.out.base)).mono ?_; rintro e w5 ⟨rfl, hb5⟩; have L5 := Lib.hid (LN.out.below hb5); clear hb5)
          | (at_builtin
             refine wpList_append_live _ rfl _ _ 50 rfl w.heap.size 9 i0 _ 1 16 Tryd.underlying50 hi0 hz0 hz1 hz2 rfl (by omega) g1 (j + 1) cap (partVs f ⟨(k : Int) + 1, a, b, key, data⟩ j) rfl (by exact L5.out.row.alloc _) w5.heap.size 0 1 1 [strV (Lib.itoa a)] rfl rfl (by exact src_new w5 [strV (Lib.itoa a)] 9 1) (by intro u hu; rw [List.mem_singleton] at hu; subst hu; rfl) (by simp only [maxLen]; omega) (by omega) (by have := L5.out.base.size; simp; omega) ?_
             intro g2 cap2 w6 hown6 hg6 hat6 hlt6
             have O6 := Lib.hid hown6
             have G6 := Lib.hid hg6
             clear hown6 hg6 hat6))
          go_roundw
          case rel => exact ⟨j + 1, g2, cap2, rfl, by omega, by rw [PS.out]; exact L5.out.more O6.out G6.out⟩
          case measure =>
            have hm := (L5.out.more O6.out G6.out).iter
            simp only [World.iterPos, hm, LR.out.iter]
            omega
        · have hpt : partT ⟨(k : Int) + 1, a, b, key, data⟩ 98 = Lib.itoa b := rfl
          rw [hpt] at PS
          clear hpt
          have c2 : wn.cell? ⟨w.heap.size, 2, none⟩ = some (.int .i64 b) := LN.out.box.cell 2
          go_wp2_with (first
          | (go_at_call 20; refine (tItoa b wn HB.out (HE.out.below LN.out.base)).mono ?_; rintro e w5 ⟨rfl, hb5⟩; have L5 := Lib.hid (LN.out.below hb5); clear hb5)
          | (at_builtin
             refine wpList_append_live _ rfl _ _ 50 rfl w.heap.size 9 i0 _ 1 16 Tryd.underlying50 hi0 hz0 hz1 hz2 rfl (by omega) g1 (j + 1) cap (partVs f ⟨(k : Int) + 1, a, b, key, data⟩ j) rfl (by exact L5.out.row.alloc _) w5.heap.size 0 1 1 [strV (Lib.itoa b)] rfl rfl (by exact src_new w5 [strV (Lib.itoa b)] 9 1) (by intro u hu; rw [List.mem_singleton] at hu; subst hu; rfl) (by simp only [maxLen]; omega) (by omega) (by have := L5.out.base.size; simp; omega) ?_
             intro g2 cap2 w6 hown6 hg6 hat6 hlt6
             have O6 := Lib.hid hown6
             have G6 := Lib.hid hg6
             clear hown6 hg6 hat6))
          go_roundw
          case rel => exact ⟨j + 1, g2, cap2, rfl, by omega, by rw [PS.out]; exact L5.out.more O6.out G6.out⟩
          case measure =>
            have hm := (L5.out.more O6.out G6.out).iter
            simp only [World.iterPos, hm, LR.out.iter]
            omega
      · obtain rfl : j = f.2.length := by omega
        have hnx : ∀ ty, (Instr.next (.pointer (some ⟨it, 0, none⟩)) true ty).run Tryd.prog wr = .ok (.tuple #[.bool false]) wr := fun ty => next_end LR.out.iter (Nat.le_refl _) ty
        have hl2 : f.2.length ≤ 2 := by
          have h1 := (forms_facts f (List.mem_of_getElem? HF.out)).2.2
          have h2 : ∀ h ∈ kinds, h.length ≤ 2 := by decide
          exact h2 _ h1
        have hcap := own_cap LR.out.row
        have hjl : (joinT 32 (f.1 :: f.2.map (partT ⟨(k : Int) + 1, a, b, key, data⟩))).length ≤ 140737488355328 := by
          rw [← join_tail]
          have := line_len (x := ⟨(k : Int) + 1, a, b, key, data⟩) (List.mem_of_getElem? HF.out) HA.out HB.out
          simp only at this
          omega
        have JN := Lib.hid (tJoin g1 cap f.1 (f.2.map (partT ⟨(k : Int) + 1, a, b, key, data⟩)) wr (fun i y hy => own_cell LR.out.row (parts_get hy)) (LR.out.row.lt g1 rfl).2 (by rw [List.length_map]; exact hcap.1) (by rw [List.length_map]; omega) hjl)
        rw [List.length_map] at JN
        clear hjl hcap
        go_wp2_with (go_at_call 21; refine JN.out.mono ?_; rintro e w7 ⟨rfl, hb7⟩; have B7 := Lib.hid hb7; clear hb7)
        go_ret2
        refine ⟨?_, LR.out.base.trans (B7.out.mono LR.out.base.size)⟩
        rw [join_tail]
        rfl
  · have hft' : fitsT f.2 ⟨(k : Int) + 1, a, b, key, data⟩ = false := by simpa using hft
    rw [if_neg hft]
    have FT := Lib.hid hft'
    clear hft hft'
    go_enter Tryd.func9, Tryd.ntmps9
    go_wp2_with fail
    refine (tForms _).mono ?_
    rintro e w2 ⟨g, rfl, hg, hfm, hb2⟩
    have BX := Lib.hid (show Blk w2 w.heap.size 24 #[.int .i64 ((k : Int) + 1), .int .i64 a, .int .i64 b, strV key, .slice A data.length c] from (Blk.made w _ _).below hb2 (by simp))
    have FM := Lib.hid hfm
    have B2 := Lib.hid (show Below w.heap.size w w2 from ((Below.refl _ w).alloc (Nat.le_refl _) _).trans (hb2.mono (by simp)))
    clear hfm hb2
    go_upto_region 2 with fail
    refine wp_region_held_drew (S := (fun w' => w'.cell? ⟨w.heap.size, 0, none⟩ = some (.int .i64 ((k : Int) + 1)) ∧ w'.cell? ⟨w.heap.size, 1, none⟩ = some (.int .i64 a) ∧ w'.cell? ⟨w.heap.size, 2, none⟩ = some (.int .i64 b) ∧ w'.cell? ⟨w.heap.size, 3, none⟩ = some (strV key) ∧ w'.cell? ⟨w.heap.size, 4, none⟩ = some (.slice A data.length c) ∧ w'.cell? ⟨g, k * 2, none⟩ = some (strV f.1) ∧ w'.cell? ⟨g, k * 2 + 1, none⟩ = some (strV f.2))) (by kernel_rfl) ⟨BX.out.cell 0, BX.out.cell 1, BX.out.cell 2, BX.out.cell 3, BX.out.cell 4, (FM.out.2 k f HF.out).1, (FM.out.2 k f HF.out).2⟩ (fun hHeld => ?_)
    refine wpAnyH_take (i := 0) (v := ?vLan40) (take_list rfl) (by kernel_rfl) (by kernel_rfl) (by kernel_rfl) (fun _ _ _ h => h) (Or.inl ⟨by rfl, ?hyLan40⟩) (by assumption) ?restLan40
    case hyLan40 => (intro w hSw; (try dsimp only at hSw); go_simp <;> with_reducible rfl)
    try simp only [Act.put, List.setIfInBounds_toArray, List.set_cons_zero, List.set_cons_succ]
    refine wpAnyH_take (i := 1) (v := ?vLan41) (take_list rfl) (by kernel_rfl) (by kernel_rfl) (by kernel_rfl) (fun _ _ _ h => h) (Or.inl ⟨by rfl, ?hyLan41⟩) (by assumption) ?restLan41
    case hyLan41 => (intro w hSw; (try dsimp only at hSw); go_simp <;> with_reducible rfl)
    try simp only [Act.put, List.setIfInBounds_toArray, List.set_cons_zero, List.set_cons_succ]
    refine wpAnyH_take (i := 2) (v := ?vLan42) (take_list rfl) (by kernel_rfl) (by kernel_rfl) (by kernel_rfl) (fun _ _ _ h => h) (Or.inl ⟨by rfl, ?hyLan42⟩) (by assumption) ?restLan42
    case hyLan42 => (intro w hSw; (try dsimp only at hSw); go_simp <;> with_reducible rfl)
    try simp only [Act.put, List.setIfInBounds_toArray, List.set_cons_zero, List.set_cons_succ]
    refine wpAnyH_take (i := 3) (v := ?vLan43) (take_list rfl) (by kernel_rfl) (by kernel_rfl) (by kernel_rfl) (fun _ _ _ h => h) (Or.inl ⟨by rfl, ?hyLan43⟩) (by assumption) ?restLan43
    case hyLan43 => (intro w hSw; (try dsimp only at hSw); go_simp <;> with_reducible rfl)
    try simp only [Act.put, List.setIfInBounds_toArray, List.set_cons_zero, List.set_cons_succ]
    refine wpAnyH_take (i := 4) (v := ?vLan44) (take_list rfl) (by kernel_rfl) (by kernel_rfl) (by kernel_rfl) (fun _ _ _ h => h) (Or.inl ⟨by rfl, ?hyLan44⟩) (by assumption) ?restLan44
    case hyLan44 => (intro w hSw; (try dsimp only at hSw); go_simp <;> with_reducible rfl)
    try simp only [Act.put, List.setIfInBounds_toArray, List.set_cons_zero, List.set_cons_succ]
    refine wpAnyH_take (i := 5) (v := ?vLan45) (take_list rfl) (by kernel_rfl) (by kernel_rfl) (by kernel_rfl) (fun _ _ _ h => h) (Or.inl ⟨by rfl, ?hyLan45⟩) (by assumption) ?restLan45
    case hyLan45 => (intro w hSw; (try dsimp only at hSw); go_simp <;> with_reducible rfl)
    try simp only [Act.put, List.setIfInBounds_toArray, List.set_cons_zero, List.set_cons_succ]
    refine wpAnyH_take (i := 6) (v := ?vLan46) (take_list rfl) (by kernel_rfl) (by kernel_rfl) (by kernel_rfl) (fun _ _ _ h => h) (Or.inl ⟨by rfl, ?hyLan46⟩) (by assumption) ?restLan46
    case hyLan46 => (intro w hSw; (try dsimp only at hSw); go_simp <;> with_reducible rfl)
    try simp only [Act.put, List.setIfInBounds_toArray, List.set_cons_zero, List.set_cons_succ]
    refine wpAnyH_take (i := 7) (v := ?vLan47) (take_list rfl) (by kernel_rfl) (by kernel_rfl) (by kernel_rfl) (fun _ _ _ h => h) (Or.inl ⟨by rfl, ?hyLan47⟩) (by assumption) ?restLan47
    case hyLan47 => (intro w hSw; (try dsimp only at hSw); go_simp <;> with_reducible rfl)
    try simp only [Act.put, List.setIfInBounds_toArray, List.set_cons_zero, List.set_cons_succ]
    refine wpAnyH_take (i := 8) (v := ?vLan48) (take_list rfl) (by kernel_rfl) (by kernel_rfl) (by kernel_rfl) (fun _ _ _ h => h) (Or.inl ⟨by rfl, ?hyLan48⟩) (by assumption) ?restLan48
    case hyLan48 => (intro w hSw; (try dsimp only at hSw); go_simp <;> with_reducible rfl)
    try simp only [Act.put, List.setIfInBounds_toArray, List.set_cons_zero, List.set_cons_succ]
    refine wpAnyH_take (i := 9) (v := ?vLan49) (take_list rfl) (by kernel_rfl) (by kernel_rfl) (by kernel_rfl) (fun _ _ _ h => h) (Or.inl ⟨by rfl, ?hyLan49⟩) (by assumption) ?restLan49
    case hyLan49 => (intro w hSw; (try dsimp only at hSw); go_simp <;> with_reducible rfl)
    try simp only [Act.put, List.setIfInBounds_toArray, List.set_cons_zero, List.set_cons_succ]
    refine wpAnyH_take (i := 10) (v := ?vLan410) (take_list rfl) (by kernel_rfl) (by kernel_rfl) (by kernel_rfl) (fun _ _ _ h => h) (Or.inl ⟨by rfl, ?hyLan410⟩) (by assumption) ?restLan410
    case hyLan410 => (intro w hSw; (try dsimp only at hSw); go_simp <;> with_reducible rfl)
    try simp only [Act.put, List.setIfInBounds_toArray, List.set_cons_zero, List.set_cons_succ]
    refine wpAnyH_take (i := 11) (v := ?vLan411) (take_list rfl) (by kernel_rfl) (by kernel_rfl) (by kernel_rfl) (fun _ _ _ h => h) (Or.inl ⟨by rfl, ?hyLan411⟩) (by assumption) ?restLan411
    case hyLan411 => (intro w hSw; (try dsimp only at hSw); go_simp <;> with_reducible rfl)
    try simp only [Act.put, List.setIfInBounds_toArray, List.set_cons_zero, List.set_cons_succ]
    refine wpAnyH_take (i := 12) (v := ?vLan412) (take_list rfl) (by kernel_rfl) (by kernel_rfl) (by kernel_rfl) (fun _ _ _ h => h) (Or.inl ⟨by rfl, ?hyLan412⟩) (by assumption) ?restLan412
    case hyLan412 => (intro w hSw; (try dsimp only at hSw); go_simp <;> with_reducible rfl)
    try simp only [Act.put, List.setIfInBounds_toArray, List.set_cons_zero, List.set_cons_succ]
    refine wpAnyH_take (i := 13) (v := ?vLan413) (take_list rfl) (by kernel_rfl) (by kernel_rfl) (by kernel_rfl) (fun _ _ _ h => h) (Or.inl ⟨by rfl, ?hyLan413⟩) (by assumption) ?restLan413
    case hyLan413 => (intro w hSw; (try dsimp only at hSw); go_simp <;> with_reducible rfl)
    try simp only [Act.put, List.setIfInBounds_toArray, List.set_cons_zero, List.set_cons_succ]
    refine wpAnyH_take (i := 14) (v := ?vLan414) (take_list rfl) (by kernel_rfl) (by kernel_rfl) (by kernel_rfl) (fun _ _ _ h => h) (Or.inl ⟨by rfl, ?hyLan414⟩) (by assumption) ?restLan414
    case hyLan414 => (intro w hSw; (try dsimp only at hSw); go_simp <;> with_reducible rfl)
    try simp only [Act.put, List.setIfInBounds_toArray, List.set_cons_zero, List.set_cons_succ]
    refine wpAnyH_take (i := 15) (v := ?vLan415) (take_list rfl) (by kernel_rfl) (by kernel_rfl) (by kernel_rfl) (fun _ _ _ h => h) (Or.inl ⟨by rfl, ?hyLan415⟩) (by assumption) ?restLan415
    case hyLan415 => (intro w hSw; (try dsimp only at hSw); go_simp <;> with_reducible rfl)
    try simp only [Act.put, List.setIfInBounds_toArray, List.set_cons_zero, List.set_cons_succ]
    refine wpAnyH_take (i := 16) (v := ?vLan416) (take_list rfl) (by kernel_rfl) (by kernel_rfl) (by kernel_rfl) (fun _ _ _ h => h) (Or.inl ⟨by rfl, ?hyLan416⟩) (by assumption) ?restLan416
    case hyLan416 => (intro w hSw; (try dsimp only at hSw); go_simp <;> with_reducible rfl)
    try simp only [Act.put, List.setIfInBounds_toArray, List.set_cons_zero, List.set_cons_succ]
    refine wpAnyH_take (i := 17) (v := ?vLan417) (take_list rfl) (by kernel_rfl) (by kernel_rfl) (by kernel_rfl) (fun _ _ _ h => h) (Or.inl ⟨by rfl, ?hyLan417⟩) (by assumption) ?restLan417
    case hyLan417 => (intro w hSw; (try dsimp only at hSw); go_simp <;> with_reducible rfl)
    try simp only [Act.put, List.setIfInBounds_toArray, List.set_cons_zero, List.set_cons_succ]
    refine wpAnyH_ready (rs := [18]) (by kernel_rfl) (by simp) ?_
    refine AllReadyH.cons rfl (fun K hK => ?_) AllReadyH.nil
    go_simp
    go_wp2_with (go_at_call 18; refine (tFits f ⟨(k : Int) + 1, a, b, key, data⟩ A c _).mono ?_; rintro e w3 ⟨rfl, hb3⟩; have hb3' : Below w2.heap.size w2 w3 := ⟨hb3.os, hb3.tape, hb3.output, hb3.size, hb3.block⟩; have B3 := Lib.hid hb3'; have S3 := Lib.hid (show Blk w3 w.heap.size 24 #[.int .i64 ((k : Int) + 1), .int .i64 a, .int .i64 b, strV key, .slice A data.length c] from BX.out.below hb3' BX.out.size); have F3 := Lib.hid (FM.out.below hb3'); rw [FT.out]; clear hb3 hb3')
    clear hHeld
    refine hK.out _ _ ⟨S3.out.cell 0, S3.out.cell 1, S3.out.cell 2, S3.out.cell 3, S3.out.cell 4, (F3.out.2 k f HF.out).1, (F3.out.2 k f HF.out).2⟩ (fun hHeld => ?_)
    clear hK K
    refine wpAnyH_take (i := 19) (v := ?vLan419) (take_list rfl) (by kernel_rfl) (by kernel_rfl) (by kernel_rfl) (fun _ _ _ h => h) (Or.inl ⟨by rfl, ?hyLan419⟩) (by assumption) ?restLan419
    case hyLan419 => (intro w hSw; (try dsimp only at hSw); go_simp <;> with_reducible rfl)
    try simp only [Act.put, List.setIfInBounds_toArray, List.set_cons_zero, List.set_cons_succ]
    refine wpAnyH_take (i := 20) (v := ?vLan420) (take_list rfl) (by kernel_rfl) (by kernel_rfl) (by kernel_rfl) (fun _ _ _ h => h) (Or.inl ⟨by rfl, ?hyLan420⟩) (by assumption) ?restLan420
    case hyLan420 => (intro w hSw; (try dsimp only at hSw); go_simp <;> with_reducible rfl)
    try simp only [Act.put, List.setIfInBounds_toArray, List.set_cons_zero, List.set_cons_succ]
    refine wpAnyH_done (by kernel_rfl) ?_ _
    go_wp2_with fail
    go_ret2
    exact ⟨rfl, B2.out.trans (B3.out.mono B2.out.size)⟩
end
end Go.Proofs.YtkkmojbaoflafaaDoor
