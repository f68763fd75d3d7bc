/- A text as steps. No condition beyond those that each theorem states. -/
import Derived.Test.YtkkmojbaoflafaaDoorY9
import Derived.Test.YtkkmojbaoflafaaDoorY11
import Derived.Shelf.Strings.Prefix
import Derived.Ground.NamesProg
import Derived.Lib.SmallJoins
namespace Go.Proofs.YtkkmojbaoflafaaDoor
open Go.RowKit Go.Shelf
attribute [local go_sem] Oper.semAt_some

def trimSL_ren : Go.Shelf.Ren := ⟨fun | 102 => 32 | 209 => 46 | 207 => 57 | n => n, fun | 9 => 9 | 4 => 4 | 3 => 3 | n => n, fun | n => n⟩
theorem trimSL : Go.Proofs.Lays.n102 Tryd.prog trimSL_ren := {
  mixed := by kernel_rfl
  f102 := Tryd.func32.trans (congrArg some (by kernel_rfl))
  f207 := Tryd.func57.trans (congrArg some (by kernel_rfl))
  f209 := Tryd.func46.trans (congrArg some (by kernel_rfl))
  t3 := Tryd.underlying3
  a3 := Tryd.isAgg3
  z3 := Tryd.sizeOf3
  v3 := Tryd.zeroValue3
  t4 := Tryd.underlying4
  a4 := Tryd.isAgg4
  z4 := Tryd.sizeOf4
  v4 := Tryd.zeroValue4
  t9 := Tryd.underlying9
  a9 := Tryd.isAgg9
  z9 := Tryd.sizeOf9
  v9 := Tryd.zeroValue9 }
def trimL (x : Str) : Str := Lib.trimSuffix x [10]
theorem trim_end (a : Str) : trimL (a ++ [10]) = a := by simp [trimL, Lib.trimSuffix, Lib.hasSuffix, List.isSuffixOf]
theorem trim_no {a : Str} (h : (10 : UInt8) ∉ a) : trimL a = a := by
  unfold trimL Lib.trimSuffix
  rw [if_neg]
  intro hs
  have h1 : [10] <:+ a := List.isSuffixOf_iff_suffix.1 hs
  obtain ⟨t, ht⟩ := h1
  exact h (by rw [← ht]; simp)
theorem lines_raw : ∀ (n : Nat) (s : Str), s.length ≤ n → linesT s = (rawLines s).map trimL
  | 0, s, h => by
    obtain rfl : s = [] := List.eq_nil_of_length_eq_zero (by omega)
    rfl
  | n + 1, s, h => by
    by_cases hc : (10 : UInt8) ∈ s
    · obtain ⟨a, r, rfl, ha⟩ := first_of hc
      have ih := lines_raw n r (by simp at h; omega)
      rw [raw_at r ha, List.map_cons, trim_end, ← ih]
      have hne := splitT_ne 10 r
      unfold linesT
      rw [splitT_at r ha]
      cases hs : splitT 10 r with
      | nil => exact absurd hs hne
      | cons p q =>
        rw [List.getLast?_cons_cons]
        split
        · rw [List.dropLast_cons_of_ne_nil (by simp)]
        · rfl
    · by_cases h0 : s = []
      · subst h0
        rfl
      · rw [raw_last hc h0, List.map_cons, List.map_nil, trim_no hc]
        unfold linesT
        rw [splitT_calm hc, if_neg (by simpa using h0)]
theorem read_ok : ∀ (xs : List Str) (L acc : List StepV) (rest : List Str), xs.map stepT = L.map some → acc.length + xs.length ≤ 65536 → readFrom acc (xs ++ rest) = readFrom (acc ++ L) rest
  | [], L, acc, rest, h, _ => by
    obtain rfl : L = [] := by cases L with
      | nil => rfl
      | cons a b => cases h
    rw [List.nil_append, List.append_nil]
  | x :: xs, L, acc, rest, h, hl => by
    cases L with
    | nil => cases h
    | cons y L =>
      rw [List.map_cons, List.map_cons] at h
      injection h with h1 h2
      simp only [List.length_cons] at hl
      rw [List.cons_append, readFrom, if_neg (by omega), h1]
      simp only
      rw [read_ok xs L (acc ++ [y]) rest h2 (by simp; omega), List.append_assoc]
      rfl
theorem tTrim (x : Str) (w : World) (hx : x.length ≤ 1000000000) : Calls Tryd.prog 32 #[strV x, .string ⟨#[10]⟩] w fun e w' => e = .returned (strV (trimL x)) ∧ w = w' := by
  refine (Any.strings_TrimSuffix trimSL ⟨x.toArray⟩ ⟨#[10]⟩ w (by show x.toArray.size ≤ _; simp; omega)).mono ?_
  rintro e w' ⟨rfl, rfl⟩
  exact ⟨rfl, rfl⟩
theorem trim_len (x : Str) : (trimL x).length ≤ x.length := by
  unfold trimL Lib.trimSuffix
  split
  · rw [List.length_take]; omega
  · exact Nat.le_refl _
theorem tLines (s : Str) (w : World) : Calls Tryd.prog 31 #[strV s] w fun e w' => e = .returned (.func (.func 44) #[] #[.pointer (some ⟨w.heap.size, 0, none⟩)]) ∧ w' = w.alloc (.cells #[strV s] 9) := by
  go_enter Tryd.func31, Tryd.ntmps31
  go_wp2
  go_ret
  exact ⟨rfl, rfl⟩
/-- A step in a row, where its bytes lie. -/
structure StepP where
  x : StepV
  A : Option Addr
  c : Nat
def stepVals (PL : List StepP) : List Value := PL.flatMap fun p => (stepCells p.x p.A p.c).toList
theorem stepVals_len (PL : List StepP) : (stepVals PL).length = PL.length * 5 := flat_length (k := 5) (fun _ => rfl) PL
/-- What lies there in the course of Read: the lines so far are steps. -/
structure ReadAt (w : World) (pre : List Str) (PL : List StepP) (v : Value) (W : World) : Prop where
  done : pre.map (fun x => stepT (trimL x)) = PL.map fun p => some p.x
  most : pre.length ≤ 65536
  out : Blk W (w.heap.size + 3) 38 #[v]
  row : W.ownsRow (w.heap.size + 7) 24 5 v PL.length (stepVals PL)
  data : ∀ p ∈ PL, DataAt W p.A p.c p.x.data
  far : ∀ p ∈ PL, ∀ g, p.A = some ⟨g, 0, none⟩ → w.heap.size + 7 ≤ g
  r0 : Blk W w.heap.size 38 #[.slice none 0 0]
  r1 : Blk W (w.heap.size + 1) 3 #[.int .i64 0]
  r2 : Blk W (w.heap.size + 2) 25 #[.int .i64 0]
  base : Below w.heap.size w W
theorem ReadAt.len {w W : World} {pre : List Str} {PL : List StepP} {v : Value} (h : ReadAt w pre PL v W) : PL.length = pre.length := by
  have := congrArg List.length h.done
  simpa using this.symm
theorem ReadAt.keep {w W W' : World} {pre : List Str} {PL : List StepP} {v : Value} (h : ReadAt w pre PL v W) (ho : W'.os = W.os) (ht : W'.tape = W.tape) (hp : W'.output = W.output) (hz : W.heap.size ≤ W'.heap.size)
    (hk : ∀ k, k < W.heap.size → (k < w.heap.size + 4 ∨ w.heap.size + 7 ≤ k) → W'.heap[k]? = W.heap[k]?) : ReadAt w pre PL v W' :=
  ⟨h.done, h.most, h.out.of_eq (hk _ h.out.size (.inl (by omega))), own_of_eq h.row (fun g hg => hk g (h.row.lt g hg).2 (.inr (h.row.lt g hg).1)),
   fun p hp' => (h.data p hp').imp id fun ⟨g, h1, h2, h3, h4⟩ => ⟨g, h1, h2, h3, h4.of_eq (hk g h4.size (.inr (h.far p hp' g h1)))⟩, h.far,
   h.r0.of_eq (hk _ h.r0.size (.inl (by omega))), h.r1.of_eq (hk _ h.r1.size (.inl (by omega))), h.r2.of_eq (hk _ h.r2.size (.inl (by omega))),
   ⟨ho.trans h.base.os, ht.trans h.base.tape, hp.trans h.base.output, Nat.le_trans h.base.size hz, fun k hkk => (hk k (Nat.lt_of_lt_of_le hkk h.base.size) (.inl (by omega))).trans (h.base.block k hkk)⟩⟩
def set3 (w W : World) (n c : Int) : World := ((W.setCell ⟨w.heap.size, 0, none⟩ (.slice none 0 0)).setCell ⟨w.heap.size + 1, 0, none⟩ (.int .i64 n)).setCell ⟨w.heap.size + 1 + 1, 0, none⟩ (.int .i64 c)
theorem set3_other (w W : World) (n c : Int) {k : Nat} (hk : w.heap.size + 3 ≤ k) : (set3 w W n c).heap[k]? = W.heap[k]? :=
  ((Below.heap_setCell _ _ _ k (by show k ≠ w.heap.size + 1 + 1; omega)).trans (Below.heap_setCell _ _ _ k (by show k ≠ w.heap.size + 1; omega))).trans (Below.heap_setCell _ _ _ k (by show k ≠ w.heap.size; omega))
def ReadI (w : World) (pre : List Str) (W : World) : Prop := ∃ PL v, ReadAt w pre PL v W
/-- Read has left in a round. -/
def ReadX (w : World) (xs : List Str) (W : World) : Prop := ∃ (ys : List Str) (x : Str) (L : List StepV) (n c : Int), xs = ys ++ [x] ∧ ys.map (fun x => stepT (trimL x)) = L.map some ∧
  ((ys.length = 65536 ∧ n = 0 ∧ c = 16) ∨ (ys.length < 65536 ∧ stepT (trimL x) = none ∧ n = (ys.length : Int) + 1 ∧ c = 15)) ∧
  Blk W w.heap.size 38 #[.slice none 0 0] ∧ Blk W (w.heap.size + 1) 3 #[.int .i64 n] ∧ Blk W (w.heap.size + 2) 25 #[.int .i64 c] ∧ Below w.heap.size w W
theorem ReadX.keep {w W W' : World} {xs : List Str} (h : ReadX w xs W) (ho : W'.os = W.os) (ht : W'.tape = W.tape) (hp : W'.output = W.output) (hz : W.heap.size ≤ W'.heap.size)
    (hk : ∀ k, k < W.heap.size → k < w.heap.size + 4 → W'.heap[k]? = W.heap[k]?) : ReadX w xs W' := by
  obtain ⟨ys, x, L, n, c, h1, h2, h3, h4, h5, h6, h7⟩ := h
  exact ⟨ys, x, L, n, c, h1, h2, h3, h4.of_eq (hk _ h4.size (by omega)), h5.of_eq (hk _ h5.size (by omega)), h6.of_eq (hk _ h6.size (by omega)),
    ⟨ho.trans h7.os, ht.trans h7.tape, hp.trans h7.output, Nat.le_trans h7.size hz, fun k hkk => (hk k (Nat.lt_of_lt_of_le hkk h7.size) (by omega)).trans (h7.block k hkk)⟩⟩
theorem ReadAt.leave {w W : World} {pre : List Str} {PL : List StepP} {v : Value} (h : ReadAt w pre PL v W) (x : Str) (n c : Int) (hc : (pre.length = 65536 ∧ n = 0 ∧ c = 16) ∨ (pre.length < 65536 ∧ stepT (trimL x) = none ∧ n = (pre.length : Int) + 1 ∧ c = 15)) :
    (∀ k, w.heap.size + 5 ≤ k → k < w.heap.size + 5 + 2 → (set3 w W n c).heap[k]? = W.heap[k]?) ∧ ReadX w (pre ++ [x]) (set3 w W n c) := by
  refine ⟨fun k hk _ => set3_other w W n c (by omega), pre, x, PL.map (·.x), n, c, rfl, by rw [h.done, List.map_map]; rfl, hc, ?_, ?_, ?_, ?_⟩
  · exact ((h.r0.store 0 _).apart (by show w.heap.size ≠ w.heap.size + 1; omega) _).apart (by show w.heap.size ≠ w.heap.size + 1 + 1; omega) _
  · exact ((h.r1.apart (by show w.heap.size + 1 ≠ w.heap.size; omega) _).store 0 _).apart (by show w.heap.size + 1 ≠ w.heap.size + 1 + 1; omega) _
  · exact (((h.r2.apart (by show w.heap.size + 2 ≠ w.heap.size; omega) _).apart (by show w.heap.size + 2 ≠ w.heap.size + 1; omega) _).store 0 _)
  · exact ((h.base.setCell (p := ⟨w.heap.size, 0, none⟩) (Nat.le_refl _) _).setCell (p := ⟨w.heap.size + 1, 0, none⟩) (by show w.heap.size ≤ w.heap.size + 1; omega) _).setCell (p := ⟨w.heap.size + 1 + 1, 0, none⟩) (by show w.heap.size ≤ w.heap.size + 1 + 1; omega) _
theorem ReadAt.leave2 {w W W2 : World} {pre : List Str} {PL : List StepP} {v : Value} (h : ReadAt w pre PL v W2) (x : Str) (n c : Int) (hc : (pre.length = 65536 ∧ n = 0 ∧ c = 16) ∨ (pre.length < 65536 ∧ stepT (trimL x) = none ∧ n = (pre.length : Int) + 1 ∧ c = 15))
    (hd : ∀ k, w.heap.size + 5 ≤ k → k < w.heap.size + 5 + 2 → W2.heap[k]? = W.heap[k]?) (o : Obj) (hz : w.heap.size + 7 ≤ W2.heap.size) :
    (∀ k, w.heap.size + 5 ≤ k → k < w.heap.size + 5 + 2 → (((set3 w W2 n c).alloc o).drew).heap[k]? = W.heap[k]?) ∧ ReadX w (pre ++ [x]) (((set3 w W2 n c).alloc o).drew) := by
  obtain ⟨h1, h2⟩ := h.leave x n c hc
  have hs : (set3 w W2 n c).heap.size = W2.heap.size := by simp [set3, World.setCell]
  refine ⟨fun k hk hk2 => ?_, h2.keep rfl rfl rfl (by show _ ≤ ((set3 w W2 n c).alloc o).heap.size; simp) (fun k hk _ => Below.heap_alloc _ _ k hk)⟩
  exact (Below.heap_alloc (set3 w W2 n c) o k (by omega)).trans ((h1 k hk hk2).trans (hd k hk hk2))
/-- What Read hands out. -/
def StepsAt (w : World) (v : Value) (L : List StepV) : Prop := ∃ PL : List StepP, PL.map (·.x) = L ∧ w.ownsRow 0 24 5 v L.length (stepVals PL) ∧ ∀ p ∈ PL, DataAt w p.A p.c p.x.data
def ReadTold (o : ReadV) (e : Ending) (w' : World) : Prop := match o with
  | .ok L => ∃ v, e = .returned (.tuple #[v, .int .i64 0, .int .i64 0]) ∧ StepsAt w' v L
  | .over => e = .returned (.tuple #[.slice none 0 0, .int .i64 0, .int .i64 16])
  | .bad n => e = .returned (.tuple #[.slice none 0 0, .int .i64 n, .int .i64 15])
theorem own_form {w : World} {base : Nat} {t : TypeId} {size n : Nat} {v : Value} {xs : List Value} (h : w.ownsRow base t size v n xs) : ∃ B c, v = .slice B n c := by
  rcases h.2 with ⟨e, h0⟩ | ⟨g, cap, cur, e, _⟩
  · subst h0
    exact ⟨none, 0, e⟩
  · exact ⟨_, cap, e⟩
theorem step_info : (Tryd.prog.info? 24).map (fun i => (i.zero, i.size, i.bytes)) = some (some (.agg #[.int .i64 0, .int .i64 0, .int .i64 0, .string ⟨#[]⟩, .slice none 0 0]), 5, 64) := by kernel_rfl
theorem Blk.made' (w : World) {g : Nat} (t : TypeId) (cs : Array Value) (hg : g = w.heap.size) : Blk (w.alloc (.cells cs t)) g t cs := by
  subst hg
  exact Blk.made w t cs
theorem read_start (w : World) (o : Obj) : ReadAt w [] [] (.slice none 0 0) (((((w.alloc (.cells #[.slice none 0 0] 38)).alloc (.cells #[.int .i64 0] 3)).alloc (.cells #[.int .i64 0] 25)).alloc (.cells #[.slice none 0 0] 38)).alloc o) :=
  ⟨rfl, by simp, (Blk.made' _ _ _ (by simp)).alloc _, World.ownsRow_nil _ _ _ _, fun p hp => (by cases hp), fun p hp => (by cases hp), ((((Blk.made w _ _).alloc _).alloc _).alloc _).alloc _, (((Blk.made' _ _ _ (by simp)).alloc _).alloc _).alloc _, ((Blk.made' _ _ _ (by simp)).alloc _).alloc _,
    (((((Below.refl _ w).alloc (Nat.le_refl _) _).alloc (by simp) _).alloc (by simp; omega) _).alloc (by simp; omega) _).alloc (by simp; omega) _⟩
theorem ReadAt.more {w W W2 w7 : World} {pre : List Str} {PL : List StepP} {B B7 : Option Addr} {n c c7 : Nat} {u : Value} {x : Str} {y : StepV} {A' : Option Addr} {c' : Nat} (h : ReadAt w pre PL (.slice B PL.length c) W2) (hn : PL.length = n) (hn6 : n < 65536) (hy : stepT (trimL x) = some y)
    (hd : DataAt W2 A' c' y.data) (hf : ∀ g, A' = some ⟨g, 0, none⟩ → w.heap.size + 7 ≤ g) (hb : Blk W2 (w.heap.size + 4) 9 #[u]) (hD : ∀ k, w.heap.size + 5 ≤ k → k < w.heap.size + 5 + 2 → W2.heap[k]? = W.heap[k]?) (hz : w.heap.size + 7 ≤ W2.heap.size) (o1 o2 : Obj)
    (hown : w7.ownsRow (w.heap.size + 7) 24 5 (.slice B7 (n + 1) c7) (n + 1) (stepVals PL ++ (stepCells y A' c').toList)) (hg : ((W2.alloc o1).alloc o2).grownBy w7 (Value.slice B n c).ownBlock) :
    (∀ k, w.heap.size + 5 ≤ k → k < w.heap.size + 5 + 2 → (w7.setCell ⟨w.heap.size + 1 + 1 + 1, 0, none⟩ (.slice B7 (n + 1) c7)).heap[k]? = W.heap[k]?) ∧
    Blk (w7.setCell ⟨w.heap.size + 1 + 1 + 1, 0, none⟩ (.slice B7 (n + 1) c7)) (w.heap.size + 4) 9 #[u] ∧ ReadI w (pre ++ [x]) (w7.setCell ⟨w.heap.size + 1 + 1 + 1, 0, none⟩ (.slice B7 (n + 1) c7)) := by
  subst hn
  have ne : ∀ q, (Value.slice B PL.length c).ownBlock = some q → w.heap.size + 7 ≤ q := fun q hq => (h.row.lt q hq).1
  have far : ∀ k, k < W2.heap.size → (Value.slice B PL.length c).ownBlock ≠ some k → w7.heap[k]? = W2.heap[k]? := fun k hk hne =>
    (hg.block k (by simp; omega) (fun e => hne e.symm)).trans ((Below.heap_alloc _ _ k (by simp; omega)).trans (Below.heap_alloc _ _ k hk))
  have low : ∀ k, k < w.heap.size + 7 → w7.heap[k]? = W2.heap[k]? := fun k hk => far k (by omega) (fun e => by have := ne k e; omega)
  have st : ∀ k, k ≠ w.heap.size + 3 → (w7.setCell ⟨w.heap.size + 1 + 1 + 1, 0, none⟩ (.slice B7 (PL.length + 1) c7)).heap[k]? = w7.heap[k]? := fun k hk => Below.heap_setCell _ _ _ k (by show k ≠ w.heap.size + 1 + 1 + 1; omega)
  have dat : ∀ {A'' : Option Addr} {c'' : Nat} {d : Str}, DataAt W2 A'' c'' d → (∀ g, A'' = some ⟨g, 0, none⟩ → w.heap.size + 7 ≤ g) → DataAt (w7.setCell ⟨w.heap.size + 1 + 1 + 1, 0, none⟩ (.slice B7 (PL.length + 1) c7)) A'' c'' d := fun hd' hf' =>
    hd'.imp id fun ⟨g, h1, h2, h3, h4⟩ => ⟨g, h1, h2, h3, h4.of_eq ((st g (by have := hf' g h1; omega)).trans (far g h4.size (fun e => by
      obtain ⟨cs, hbk⟩ := own_blk h.row e
      exact h4.ne hbk (by decide) rfl)))⟩
  have hlen := h.len
  refine ⟨fun k h1 h2 => (st k (by omega)).trans ((low k (by omega)).trans (hD k h1 h2)), hb.of_eq ((st _ (by omega)).trans (low _ (by omega))), PL ++ [⟨y, A', c'⟩], .slice B7 (PL.length + 1) c7, ?_⟩
  refine ⟨by rw [List.map_append, List.map_append, h.done]; simp [hy], by rw [List.length_append, List.length_singleton]; omega, ?_, ?_, ?_, ?_, ?_, ?_, ?_, ?_⟩
  · exact (h.out.of_eq (low _ (by omega))).store 0 _
  · have e : stepVals (PL ++ [⟨y, A', c'⟩]) = stepVals PL ++ (stepCells y A' c').toList := by simp [stepVals]
    rw [e, List.length_append, List.length_singleton]
    exact own_of_eq hown (fun g hg' => st g (by have := (hown.lt g hg').1; omega))
  · intro p hp
    rcases List.mem_append.1 hp with hp | hp
    · exact dat (h.data p hp) (h.far p hp)
    · rw [List.mem_singleton] at hp
      subst hp
      exact dat hd hf
  · intro p hp
    rcases List.mem_append.1 hp with hp | hp
    · exact h.far p hp
    · rw [List.mem_singleton] at hp
      subst hp
      exact hf
  · exact h.r0.of_eq ((st _ (by omega)).trans (low _ (by omega)))
  · exact h.r1.of_eq ((st _ (by omega)).trans (low _ (by omega)))
  · exact h.r2.of_eq ((st _ (by omega)).trans (low _ (by omega)))
  · have hb1 := (h.base.alloc (o := o1) (by omega)).alloc (o := o2) (by simp; omega)
    have hb2 := hb1.grown hg hb1.size (fun q hq => by have := ne q hq; omega)
    exact hb2.setCell (p := ⟨w.heap.size + 1 + 1 + 1, 0, none⟩) (by show w.heap.size ≤ w.heap.size + 1 + 1 + 1; omega) _
theorem cells_new (W : World) {g : Nat} (cs : Array Value) (t : TypeId) (hg : g = W.heap.size) : ∀ j u, cs.toList[j]? = some u → (W.alloc (.cells cs t)).cell? ((⟨g, 0, none⟩ : Addr).add j) = some u := fun j u hu => by
  rw [add_plain, Nat.zero_add, (Blk.made' W t cs hg).cell]
  simpa using hu
theorem step_ones (x : StepV) (A : Option Addr) (c : Nat) : ∀ u ∈ (stepCells x A c).toList, u.oneCell' = true := by
  intro u hu
  simp only [stepCells, List.mem_cons, List.not_mem_nil, or_false] at hu
  rcases hu with rfl | rfl | rfl | rfl | rfl <;> rfl
theorem len_ok1 {n : Nat} (h : n ≤ 65536) : n + 1 ≤ maxLen := by simp only [maxLen]; omega
theorem len_ok2 {n : Nat} (h : n ≤ 65536) : (n + 1) * 64 ≤ 140737488355328 := by omega
theorem results_cells3 {fn : Func} {p q r : Tmp} {t u v : TypeId} (h : fn.results = #[.cell p t, .cell q u, .cell r v]) (tmps : Array Value) (P : Program) (w : World) :
    (results fn tmps).run P w = ((asAddr (tmps.getD p undef)).run P w).andThen fun a w₁ => ((loadVar t a).run P w₁).andThen fun x w₂ => ((asAddr (tmps.getD q undef)).run P w₂).andThen fun b w₃ => ((loadVar u b).run P w₃).andThen fun y w₄ =>
      ((asAddr (tmps.getD r undef)).run P w₄).andThen fun c w₅ => ((loadVar v c).run P w₅).andThen fun z w₆ => .ok (.tuple #[x, y, z]) w₆ := by
  simp only [results, h]
  simp [Sem.run_bind, Result.andThen]
theorem read_done {s : Str} {L : List StepV} (h : (rawLines s).map (fun x => stepT (trimL x)) = L.map some) (hl : (rawLines s).length ≤ 65536) : readT s = .ok L := by
  unfold readT
  rw [lines_raw s.length s (Nat.le_refl _)]
  have := read_ok ((rawLines s).map trimL) L [] [] (by rw [List.map_map]; exact h) (by simpa using hl)
  rw [List.append_nil, List.nil_append] at this
  rw [this]
  rfl
theorem read_left {s : Str} {ys : List Str} {x : Str} {L : List StepV} (hp : ys ++ [x] <+: rawLines s) (h : ys.map (fun x => stepT (trimL x)) = L.map some) (hl : ys.length ≤ 65536) : L.length = ys.length ∧ ∃ t, readT s = readFrom L (trimL x :: t) := by
  obtain ⟨t, ht⟩ := hp
  refine ⟨by have := congrArg List.length h; simpa using this.symm, t.map trimL, ?_⟩
  unfold readT
  rw [lines_raw s.length s (Nat.le_refl _), ← ht, List.map_append, List.map_append, List.append_assoc]
  rw [read_ok (ys.map trimL) L [] _ (by rw [List.map_map]; exact h) (by simpa using hl)]
  rfl
theorem read_stop {s : Str} {ys : List Str} {x : Str} {L : List StepV} {n c : Int} (hp : ys ++ [x] <+: rawLines s) (h : ys.map (fun x => stepT (trimL x)) = L.map some)
    (hc : (ys.length = 65536 ∧ n = 0 ∧ c = 16) ∨ (ys.length < 65536 ∧ stepT (trimL x) = none ∧ n = (ys.length : Int) + 1 ∧ c = 15)) (w : World) : ReadTold (readT s) (.returned (.tuple #[.slice none 0 0, .int .i64 n, .int .i64 c])) w := by
  obtain ⟨hl, t, ht⟩ := read_left hp h (by omega)
  rw [ht]
  rcases hc with ⟨h1, rfl, rfl⟩ | ⟨h1, h2, rfl, rfl⟩
  · rw [readFrom, if_pos (by omega)]
    rfl
  · rw [readFrom, if_neg (by omega), h2]
    show _ = _
    rw [hl]
    rfl
def set3v (w W : World) (v : Value) : World := ((W.setCell ⟨w.heap.size, 0, none⟩ v).setCell ⟨w.heap.size + 1, 0, none⟩ (.int .i64 0)).setCell ⟨w.heap.size + 1 + 1, 0, none⟩ (.int .i64 0)
theorem set3v_other (w W : World) (v : Value) {k : Nat} (hk : w.heap.size + 3 ≤ k) : (set3v w W v).heap[k]? = W.heap[k]? :=
  ((Below.heap_setCell _ _ _ k (by show k ≠ w.heap.size + 1 + 1; omega)).trans (Below.heap_setCell _ _ _ k (by show k ≠ w.heap.size + 1; omega))).trans (Below.heap_setCell _ _ _ k (by show k ≠ w.heap.size; omega))
theorem ReadAt.end {w W : World} {s : Str} {PL : List StepP} {v : Value} (h : ReadAt w (rawLines s) PL v W) (g : Nat) (hg : g = w.heap.size + 5) (o : Obj) : let Wd := (set3v w W v).putObj g o
    Wd.cell? ⟨w.heap.size, 0, none⟩ = some v ∧ Wd.cell? ⟨w.heap.size + 1, 0, none⟩ = some (.int .i64 0) ∧ Wd.cell? ⟨w.heap.size + 1 + 1, 0, none⟩ = some (.int .i64 0) ∧
    ReadTold (readT s) (.returned (.tuple #[v, .int .i64 0, .int .i64 0])) Wd ∧ Below w.heap.size w Wd := by
  intro Wd
  have far : ∀ k, w.heap.size + 7 ≤ k → Wd.heap[k]? = W.heap[k]? := fun k hk => (World.putObj_heap_other (by omega)).trans (set3v_other w W v (by omega))
  refine ⟨?_, ?_, ?_, ?_, ?_⟩
  · exact (((((h.r0.store 0 _).apart (by show w.heap.size ≠ w.heap.size + 1; omega) _).apart (by show w.heap.size ≠ w.heap.size + 1 + 1; omega) _).of_eq (World.putObj_heap_other (by omega)) : Blk Wd _ _ _)).cell 0
  · exact (((((h.r1.apart (by show w.heap.size + 1 ≠ w.heap.size; omega) _).store 0 _).apart (by show w.heap.size + 1 ≠ w.heap.size + 1 + 1; omega) _).of_eq (World.putObj_heap_other (by omega)) : Blk Wd _ _ _)).cell 0
  · exact (((((h.r2.apart (by show w.heap.size + 2 ≠ w.heap.size; omega) _).apart (by show w.heap.size + 2 ≠ w.heap.size + 1; omega) _).store 0 _).of_eq (World.putObj_heap_other (by show w.heap.size + 2 ≠ _; omega)) : Blk Wd _ _ _)).cell 0
  · rw [read_done (L := PL.map (·.x)) (by rw [h.done, List.map_map]; rfl) h.most]
    refine ⟨v, rfl, PL, rfl, ?_, fun p hp => ?_⟩
    · rw [List.length_map]
      exact own_of_eq (Joins.ownsRow_le h.row (Nat.zero_le _)) (fun k hk => far k (h.row.lt k hk).1)
    · exact (h.data p hp).imp id fun ⟨k, h1, h2, h3, h4⟩ => ⟨k, h1, h2, h3, h4.of_eq (far k (h.far p hp k h1))⟩
  · have hb := ((h.base.setCell (p := ⟨w.heap.size, 0, none⟩) (Nat.le_refl _) v).setCell (p := ⟨w.heap.size + 1, 0, none⟩) (by show w.heap.size ≤ w.heap.size + 1; omega) (.int .i64 0)).setCell (p := ⟨w.heap.size + 1 + 1, 0, none⟩) (by show w.heap.size ≤ w.heap.size + 1 + 1; omega) (.int .i64 0)
    exact hb.trans ⟨rfl, rfl, rfl, by show _ ≤ ((set3v w W v).putObj g o).heap.size; simp [set3v], fun k hk => World.putObj_heap_other (by omega)⟩
section
set_option maxHeartbeats 16000000
set_option maxRecDepth 100000
theorem tRead (s : Str) (w : World) (he : Env w) (hs : s.length ≤ 1000000000) :
    Calls Tryd.prog 15 #[strV s] w fun e w' => ReadTold (readT s) e w' ∧ Below w.heap.size w w' := by
  have HE := Lib.hid he
  clear he
  obtain ⟨i0, hi0, hz0, hz1, hz2⟩ := info_parts step_info
  refine (callsIn_wide (n := 3)).1 (callsIn_of_wp_marks Tryd.func15 rfl trivial ?_ rfl)
  simp only [Tryd.ntmps15, List.size_toArray, List.length_cons, List.length_nil, Nat.reduceAdd, Nat.reduceSub, Array.replicate_succ, Array.replicate_zero, List.push_toArray, List.append_toArray, List.nil_append, List.cons_append]
  gi_wp2_with (refine ⟨trivial, ?_⟩; gi_at_call 31; refine (callsIn_wide.2 (tLines s _)).mono ?_; rintro e w1 ⟨rfl, rfl⟩)
  obtain ⟨w5, hw5⟩ : ∃ x, (((((w.alloc (.cells #[.slice none 0 0] 38)).alloc (.cells #[.int .i64 0] 3)).alloc (.cells #[.int .i64 0] 25)).alloc (.cells #[.slice none 0 0] 38)).alloc (.cells #[strV s] 9)) = x := ⟨_, rfl⟩
  have hs5 : w5.heap.size = w.heap.size + 5 := by rw [← hw5]; simp
  have HB5 := Lib.hid (show Blk w5 (w.heap.size + 4) 9 #[strV s] by rw [← hw5]; exact Blk.made' _ _ _ (by simp))
  have HA5 := Lib.hid (show ReadAt w [] [] (.slice none 0 0) w5 by rw [← hw5]; exact read_start w _)
  rw [hw5]
  clear hw5
  refine range_lines (b := w.heap.size + 4) (s := s) rfl rfl hs HB5.out (ReadI w) (ReadX w) ?hId ?hIs ?hIp ?hJp ?h0
    (fun x => { tmps := #[strV s, undef, .pointer (some ⟨w.heap.size, 0, none⟩), .pointer (some ⟨w.heap.size + 1, 0, none⟩), .pointer (some ⟨w.heap.size + 1 + 1, 0, none⟩), .pointer (some ⟨w.heap.size + 1 + 1 + 1, 0, none⟩), strV x, undef, undef, strV s, .func (.func 44) #[] #[.pointer (some ⟨w.heap.size + 1 + 1 + 1 + 1, 0, none⟩)], strV x, undef, undef, undef, undef, undef, undef, undef, undef, undef, undef, undef, undef, undef, undef, undef, undef, undef, undef, undef, undef], defers := [] }) ?assign ?body ?done ?stop
  case hId => rintro pre W ⟨PL, v, h⟩; exact ⟨PL, v, h.keep rfl rfl rfl (Nat.le_refl _) (fun _ _ _ => rfl)⟩
  case hIs => rintro pre W u v ⟨PL, v', h⟩ _; exact ⟨PL, v', h.keep rfl rfl rfl (by simp [World.setCell]) (fun k _ hk => Below.heap_setCell W _ v k (by show k ≠ w.heap.size + 4; omega))⟩
  case hIp => rintro pre W k o h1 h2 _ ⟨PL, v', h⟩; exact ⟨PL, v', h.keep rfl rfl rfl (by simp) (fun j _ hj => World.putObj_heap_other (by omega))⟩
  case hJp => rintro pre W k o h1 h2 _ h; exact h.keep rfl rfl rfl (by simp) (fun j _ hj => World.putObj_heap_other (by omega))
  case h0 => intro o o'; exact ⟨[], _, HA5.out.keep rfl rfl rfl (by simp; omega) (fun k hk _ => (Below.heap_alloc _ _ k (by simp; omega)).trans (Below.heap_alloc _ _ k hk))⟩
  case assign =>
    intro l x W K hK
    gi_wp2
    exact hK
  case body =>
    rintro l pre x W u hpf ⟨PL, v, hA⟩ hbl hz
    rw [hs5] at hz
    have hxl : x.length ≤ 1000000000 := Nat.le_trans (raw_len (s := s) (List.IsPrefix.subset hpf (by simp))) hs
    have HA := Lib.hid hA
    have HL := Lib.hid hbl
    obtain ⟨B, c, rfl⟩ := own_form hA.row
    have hlen := hA.len
    have hmost := hA.most
    obtain ⟨n, hn⟩ : ∃ n, PL.length = n := ⟨_, rfl⟩
    have k5 : W.cell? ⟨w.heap.size + 1 + 1 + 1, 0, none⟩ = some (.slice B n c) := by rw [← hn]; exact hA.out.cell 0
    have HN := Lib.hid hn
    have HP := Lib.hid (show pre.length = n by omega)
    have hn6 : n ≤ 65536 := by omega
    clear hA hbl hpf hlen hmost hn
    have hw5 : w.heap.size + 7 ≤ W.heap.size := by omega
    by_cases hfull : 65536 ≤ n
    · have d1 : decide ((65536 : Int) ≤ (n : Int)) = true := decide_eq_true (by omega)
      have d2 : (65536 : Int) ≤ (n : Int) := by omega
      have k0 : W.cell? ⟨w.heap.size, 0, none⟩ = some (.slice none 0 0) := HA.out.r0.cell 0
      have k1 : W.cell? ⟨w.heap.size + 1, 0, none⟩ = some (.int .i64 0) := HA.out.r1.cell 0
      have k2 : W.cell? ⟨w.heap.size + 1 + 1, 0, none⟩ = some (.int .i64 0) := HA.out.r2.cell 0
      have f0 : W.frozen? ⟨w.heap.size, 0, none⟩ = false := HA.out.r0.free 0
      have f1 : W.frozen? ⟨w.heap.size + 1, 0, none⟩ = false := HA.out.r1.free 0
      have f2 : W.frozen? ⟨w.heap.size + 1 + 1, 0, none⟩ = false := HA.out.r2.free 0
      gi_wp2
      rw [hs5]
      have hl := HA.out.leave x 0 16 (.inl ⟨by have := HP.out; omega, rfl, rfl⟩)
      exact hl
    · have d1 : decide ((65536 : Int) ≤ (n : Int)) = false := decide_eq_false (by omega)
      have d2 : ¬ (65536 : Int) ≤ (n : Int) := by omega
      have TT := Lib.hid (tTrim x W hxl)
      have TS := Lib.hid (tStep (trimL x) W (HE.out.below HA.out.base) (Nat.le_trans (trim_len x) hxl))
      gi_wp2_with (first
        | (refine ⟨trivial, ?_⟩; gi_at_call 32; refine (CallsIn.inRound l (callsIn_wide.2 TT.out)).mono ?_; rintro e w1 ⟨rfl, rfl⟩)
        | (refine ⟨trivial, ?_⟩; gi_at_call 12; refine (CallsIn.inRound l (callsIn_wide.2 TS.out)).mono ?_))
      rintro e W2 ⟨htold, hb2⟩
      have hzz := hb2.size
      have A2 := Lib.hid (show ReadAt w pre PL (.slice B PL.length c) W2 from HA.out.keep hb2.os hb2.tape hb2.output hb2.size (fun k hk _ => hb2.block k hk))
      have L2 := Lib.hid (show Blk W2 (w.heap.size + 4) 9 #[u] from HL.out.below hb2 HL.out.size)
      have hw7 : w.heap.size + 7 ≤ W2.heap.size := by omega
      have g0 : w.heap.size < W2.heap.size := by omega
      have g1 : w.heap.size + 1 < W2.heap.size := by omega
      have g2 : w.heap.size + 1 + 1 < W2.heap.size := by omega
      have g3 : w.heap.size + 1 + 1 + 1 < W2.heap.size := by omega
      have D2 := Lib.hid (show ∀ k, w.heap.size + 5 ≤ k → k < w.heap.size + 5 + 2 → W2.heap[k]? = W.heap[k]? from fun k _ hk => hb2.block k (by omega))
      have q5 : W2.cell? ⟨w.heap.size + 1 + 1 + 1, 0, none⟩ = some (.slice B n c) := by rw [← HN.out]; exact A2.out.out.cell 0
      have f5 : W2.frozen? ⟨w.heap.size + 1 + 1 + 1, 0, none⟩ = false := A2.out.out.free 0
      clear k5 hb2 TT TS
      cases ho : stepT (trimL x) with
      | none =>
        have HO := Lib.hid ho
        rw [ho] at htold
        obtain rfl : e = .returned (.tuple #[stepV zeroS none 0, .int .i64 15]) := htold
        have k0 : W2.cell? ⟨w.heap.size, 0, none⟩ = some (.slice none 0 0) := A2.out.r0.cell 0
        have k1 : W2.cell? ⟨w.heap.size + 1, 0, none⟩ = some (.int .i64 0) := A2.out.r1.cell 0
        have k2 : W2.cell? ⟨w.heap.size + 1 + 1, 0, none⟩ = some (.int .i64 0) := A2.out.r2.cell 0
        have f0 : W2.frozen? ⟨w.heap.size, 0, none⟩ = false := A2.out.r0.free 0
        have f1 : W2.frozen? ⟨w.heap.size + 1, 0, none⟩ = false := A2.out.r1.free 0
        have f2 : W2.frozen? ⟨w.heap.size + 1 + 1, 0, none⟩ = false := A2.out.r2.free 0
        have p1 : IntKind.i64.wrap ((n : Int) + 1) = (n : Int) + 1 := IntWalk.i64_in _ (by omega)
        clear ho
        have LV := Lib.hid (A2.out.leave2 x ((n : Int) + 1) 15 (.inr ⟨by have := HP.out; omega, HO.out, by have := HP.out; omega, rfl⟩) D2.out (.cells #[.int .i64 0, .int .i64 0, .int .i64 0, .string ⟨#[]⟩, .slice none 0 0] 24) hw7)
        unfold stepV zeroS
        gi_wp2
        gi_region
        all_goals
          gi_wp2
          rw [hs5]
          exact LV.out
      | some y =>
        have HO := Lib.hid ho
        rw [ho] at htold
        obtain ⟨A', c', rfl, hd, hfar⟩ := htold
        have DT := Lib.hid hd
        have FR := Lib.hid hfar
        clear ho hd hfar
        have ROW := Lib.hid (show W2.ownsRow (w.heap.size + 7) 24 5 (.slice B n c) n (stepVals PL) by have h := A2.out.row; rw [HN.out] at h; exact h)
        unfold stepV
        gi_wp2_with (
          gi_at_builtin
          refine wpListIn_append_own _ rfl _ _ 38 rfl (w.heap.size + 7) 24 i0 _ 5 64 Tryd.underlying38 hi0 hz0 hz1 hz2 rfl (by decide) (.slice B n c) n (stepVals PL) rfl (by exact (ROW.out.alloc _).alloc _) ⟨W2.heap.size + 1, 0, none⟩ 1 1 (stepCells y A' c').toList rfl rfl (by exact cells_new _ _ _ (by simp)) (by exact step_ones y A' c') (by exact len_ok1 hn6) (by exact len_ok2 hn6) (by simp; omega) ?_
          intro v7 w7 hown7 hgr7 _
          obtain ⟨B7, c7, rfl⟩ := own_form hown7
          have O7 := Lib.hid hown7
          have G7 := Lib.hid hgr7
          clear hown7 hgr7
          refine Hid.out ?_)
        refine Lib.hid ?_
        have low : ∀ k, k < w.heap.size + 7 → w7.heap[k]? = W2.heap[k]? := fun k hk => (G7.out.block k (by simp; omega) (fun e => by have := (ROW.out.lt k e.symm).1; omega)).trans ((Below.heap_alloc _ _ k (by simp; omega)).trans (Below.heap_alloc _ _ k (by omega)))
        have b7 : Blk w7 (w.heap.size + 1 + 1 + 1) 38 #[.slice B PL.length c] := A2.out.out.of_eq (low _ (by omega))
        have k7 : w7.cell? ⟨w.heap.size + 1 + 1 + 1, 0, none⟩ = some (.slice B PL.length c) := b7.cell 0
        have f7 : w7.frozen? ⟨w.heap.size + 1 + 1 + 1, 0, none⟩ = false := b7.free 0
        have MO := Lib.hid (A2.out.more HN.out (by omega) HO.out DT.out (fun g hg => by have := FR.out g hg; omega) L2.out D2.out hw7 _ _ O7.out G7.out)
        clear low b7
        gi_wp2
        exact MO.out
  case done =>
    rintro W ⟨PL, v, hA⟩ hD
    obtain ⟨B, c, rfl⟩ := own_form hA.row
    have HA := Lib.hid hA
    have HD := Lib.hid hD
    obtain ⟨n, hn⟩ : ∃ n, PL.length = n := ⟨_, rfl⟩
    have k5 : W.cell? ⟨w.heap.size + 1 + 1 + 1, 0, none⟩ = some (.slice B n c) := by rw [← hn]; exact hA.out.cell 0
    have k0 : W.cell? ⟨w.heap.size, 0, none⟩ = some (.slice none 0 0) := hA.r0.cell 0
    have k1 : W.cell? ⟨w.heap.size + 1, 0, none⟩ = some (.int .i64 0) := hA.r1.cell 0
    have k2 : W.cell? ⟨w.heap.size + 1 + 1, 0, none⟩ = some (.int .i64 0) := hA.r2.cell 0
    have f0 : W.frozen? ⟨w.heap.size, 0, none⟩ = false := hA.r0.free 0
    have f1 : W.frozen? ⟨w.heap.size + 1, 0, none⟩ = false := hA.r1.free 0
    have f2 : W.frozen? ⟨w.heap.size + 1 + 1, 0, none⟩ = false := hA.r2.free 0
    have HN := Lib.hid hn
    clear hA hD hn
    gi_wp2
    refine ⟨by simp, .inl ⟨_, _, rfl, run_takeDeferred (ds := []) ((set3v_other w W (.slice B n c) (by omega)).trans HD.out), ?_⟩⟩
    have HE5 := Lib.hid (HA.out.end w5.heap.size hs5 (.deferred none))
    rw [HN.out] at HE5
    obtain ⟨Wd, hWd⟩ : ∃ x, (set3v w W (.slice B n c)).putObj w5.heap.size (.deferred none) = x := ⟨_, rfl⟩
    have HE6 := HE5.out
    rw [hWd] at HE6
    obtain ⟨q0, q1, q2, hR, hB⟩ := HE6
    have HR := Lib.hid hR
    have HB := Lib.hid hB
    clear hR hB HE5
    show LeavesInM _ _ _ _ _ _ [] _ ((set3v w W (.slice B n c)).putObj w5.heap.size (.deferred none))
    rw [hWd]
    refine ⟨_, ?_, HR.out, HB.out⟩
    rw [results_cells3 rfl]
    go_simp
  case stop =>
    rintro pre W hpf hX hD
    obtain ⟨ys, x, L, n, c, rfl, hys, hcase, b0, b1, b2, hbl⟩ := hX
    have HD := Lib.hid hD
    have hDz : w5.heap.size < W.heap.size := (Array.getElem?_eq_some_iff.1 hD).1
    obtain ⟨Wd, hWd⟩ : ∃ x, W.putObj w5.heap.size (.deferred none) = x := ⟨_, rfl⟩
    have q0 : Wd.cell? ⟨w.heap.size, 0, none⟩ = some (.slice none 0 0) := by rw [← hWd]; exact (b0.of_eq (World.putObj_heap_other (by omega))).cell 0
    have q1 : Wd.cell? ⟨w.heap.size + 1, 0, none⟩ = some (.int .i64 n) := by rw [← hWd]; exact (b1.of_eq (World.putObj_heap_other (by omega))).cell 0
    have q2 : Wd.cell? ⟨w.heap.size + 1 + 1, 0, none⟩ = some (.int .i64 c) := by rw [← hWd]; exact (b2.of_eq (World.putObj_heap_other (by show w.heap.size + 2 ≠ _; omega))).cell 0
    have BD := Lib.hid (show Below w.heap.size w Wd by rw [← hWd]; exact hbl.trans ⟨rfl, rfl, rfl, by simp, fun k hk => World.putObj_heap_other (by omega)⟩)
    gi_wp2
    refine ⟨by simp, .inl ⟨_, _, rfl, run_takeDeferred HD.out, ?_⟩⟩
    rw [hWd]
    have RS := Lib.hid (read_stop hpf hys hcase Wd)
    refine ⟨_, ?_, RS.out, BD.out⟩
    clear hpf hys hcase RS
    rw [results_cells3 rfl]
    go_simp
end
end Go.Proofs.YtkkmojbaoflafaaDoor
