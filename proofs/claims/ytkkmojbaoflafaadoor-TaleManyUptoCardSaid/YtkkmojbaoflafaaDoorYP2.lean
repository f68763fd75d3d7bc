/- A script's lines as plain lists of bytes. No condition beyond those that each theorem states. -/
import Derived.Test.YtkkmojbaoflafaaDoorYP1
namespace Go.Proofs.YtkkmojbaoflafaaDoor

structure StepV where
  kind : Int
  a : Int
  b : Int
  key : Str
  data : Str
/-- Each kind's word, and which words its line has behind. -/
def formsT : List (Str × Str) := [([112, 117, 116], [107, 100]), ([114, 101, 99, 97, 108, 108], [107]), ([112, 111, 108, 108], [97]), ([102, 101, 116, 99, 104], [97]), ([100, 101, 108, 101, 116, 101], [107]), ([116, 105, 99, 107], []), ([99, 97, 114, 101], []), ([114, 101, 116, 105, 114, 101], [97]), ([108, 105, 115, 116], []), ([115, 116, 97, 116, 117, 115], [107]), ([114, 111, 116], [97, 98]), ([108, 111, 115, 101], [97]), ([98, 114, 101, 97, 107], [97]), ([109, 101, 110, 100], [97]), ([97, 100, 100], []), ([102, 117, 115, 101], [97]), ([99, 114, 97, 115, 104], [97, 98]), ([111, 112, 101, 110], []), ([119, 105, 112, 101], [])]
def partT (x : StepV) (c : UInt8) : Str := if c = 107 then hexT x.key else if c = 100 then hexT x.data else if c = 97 then Lib.itoa x.a else Lib.itoa x.b
def fitsT (has : Str) (x : StepV) : Bool := (has.contains 107 || decide (x.key = [])) && (has.contains 100 || decide (x.data = [])) && (has.contains 97 || decide (x.a = 0)) && (has.contains 98 || decide (x.b = 0))
def tailT (x : StepV) (has : Str) : Str := has.flatMap fun c => 32 :: partT x c
def formAt (k : Int) : Option (Str × Str) := if 1 ≤ k then formsT[(k - 1).toNat]? else none
def lineT (x : StepV) : Option Str := match formAt x.kind with
  | none => none
  | some f => if fitsT f.2 x then some (f.1 ++ tailT x f.2) else none
/-- A text's pieces between a sign. -/
def splitT (c : UInt8) : Str → List Str
  | [] => [[]]
  | x :: r => if x = c then [] :: splitT c r else match splitT c r with
    | [] => [[x]]
    | h :: t => (x :: h) :: t
def setT (x : StepV) (c : UInt8) (s : Str) : Option StepV :=
  if c = 107 then (unhexT s).map fun b => { x with key := b } else if c = 100 then (unhexT s).map fun b => { x with data := b } else if c = 97 then (numT s).map fun n => { x with a := n } else (numT s).map fun n => { x with b := n }
def argsT : Str → List Str → StepV → Option StepV
  | [], _, x => some x
  | c :: cs, s :: ss, x => (setT x c s).bind (argsT cs ss)
  | _ :: _, [], _ => none
def meets (f : Str × Str) (l : List Str) : Bool := decide (l.head? = some f.1) && decide (l.length = 1 + f.2.length)
def stepFrom (k : Int) : List (Str × Str) → List Str → Option StepV
  | [], _ => none
  | f :: r, l => if meets f l then argsT f.2 l.tail ⟨k + 1, 0, 0, [], []⟩ else stepFrom (k + 1) r l
def stepT (s : Str) : Option StepV := stepFrom 0 formsT (splitT 32 s)

theorem splitT_ne (c : UInt8) : ∀ s, splitT c s ≠ []
  | [] => by simp [splitT]
  | x :: r => by
    unfold splitT
    split
    · simp
    · split <;> simp
theorem splitT_calm {c : UInt8} : ∀ {s : Str}, c ∉ s → splitT c s = [s]
  | [], _ => rfl
  | x :: r, h => by
    have hx : x ≠ c := fun e => h (by simp [e])
    have hr : c ∉ r := fun e => h (by simp [e])
    rw [splitT, if_neg hx, splitT_calm hr]
theorem splitT_at {c : UInt8} : ∀ {s : Str} (r : Str), c ∉ s → splitT c (s ++ c :: r) = s :: splitT c r
  | [], r, _ => by rw [List.nil_append, splitT, if_pos rfl]
  | x :: s, r, h => by
    have hx : x ≠ c := fun e => h (by simp [e])
    have hr : c ∉ s := fun e => h (by simp [e])
    rw [List.cons_append, splitT, if_neg hx, splitT_at r hr]
/-- Joined again. -/
def joinT (c : UInt8) : List Str → Str
  | [] => []
  | [x] => x
  | x :: y :: r => x ++ c :: joinT c (y :: r)
theorem join_split (c : UInt8) : ∀ s, joinT c (splitT c s) = s
  | [] => rfl
  | x :: r => by
    have ih := join_split c r
    have hn := splitT_ne c r
    unfold splitT
    split
    · rename_i hx
      cases hs : splitT c r with
      | nil => exact absurd hs hn
      | cons h t =>
        rw [hs] at ih
        rw [joinT, ih, hx]
        rfl
    · cases hs : splitT c r with
      | nil => exact absurd hs hn
      | cons h t =>
        rw [hs] at ih
        cases t with
        | nil => simpa [joinT] using ih
        | cons y t =>
          simp only [joinT] at ih ⊢
          rw [List.cons_append, ih]
theorem split_mem {c : UInt8} : ∀ {s x : Str}, x ∈ splitT c s → c ∉ x
  | [], x, h => by
    simp [splitT] at h
    simp [h]
  | y :: r, x, h => by
    unfold splitT at h
    split at h
    · rcases List.mem_cons.1 h with rfl | h
      · simp
      · exact split_mem h
    · rename_i hy
      cases hs : splitT c r with
      | nil => exact absurd hs (splitT_ne c r)
      | cons p t =>
        rw [hs] at h
        rcases List.mem_cons.1 h with rfl | h
        · intro e
          rcases List.mem_cons.1 e with e | e
          · exact hy e.symm
          · exact split_mem (s := r) (by rw [hs]; simp) e
        · exact split_mem (s := r) (by rw [hs]; simp [h])
theorem split_tail (x : StepV) : ∀ (wd has : Str), 32 ∉ wd → splitT 32 (wd ++ tailT x has) = wd :: has.map (partT x)
  | wd, [], h => by
    show splitT 32 (wd ++ []) = [wd]
    rw [List.append_nil, splitT_calm h]
  | wd, c :: cs, h => by
    have hp : (32 : UInt8) ∉ partT x c := by
      unfold partT
      split
      · exact fun e => (calm_hex _ _ e).1 rfl
      · split
        · exact fun e => (calm_hex _ _ e).1 rfl
        · split
          · exact fun e => (calm_itoa _ _ e).1 rfl
          · exact fun e => (calm_itoa _ _ e).1 rfl
    show splitT 32 (wd ++ ((32 :: partT x c) ++ tailT x cs)) = _
    rw [List.cons_append, splitT_at _ h, split_tail x _ cs hp, List.map_cons]
theorem stepFrom_at : ∀ (fs : List (Str × Str)) (k : Int) (n : Nat) (f : Str × Str) (l : List Str), fs[n]? = some f → (∀ m g, m < n → fs[m]? = some g → g.1 ≠ f.1) → meets f l = true →
    stepFrom k fs l = argsT f.2 l.tail ⟨k + n + 1, 0, 0, [], []⟩
  | [], k, n, f, l, h, _, _ => by simp at h
  | g :: r, k, 0, f, l, h, _, hm => by
    simp only [List.getElem?_cons_zero, Option.some.injEq] at h
    subst h
    rw [stepFrom, if_pos hm, Int.natCast_zero, Int.add_zero]
  | g :: r, k, n + 1, f, l, h, hd, hm => by
    have hne : ¬ meets g l = true := by
      have h1 := hd 0 g (by omega) rfl
      unfold meets at hm ⊢
      simp only [Bool.and_eq_true, decide_eq_true_eq] at hm ⊢
      rintro ⟨h2, _⟩
      rw [hm.1] at h2
      exact h1 (Option.some.inj h2).symm
    rw [stepFrom, if_neg hne, stepFrom_at r (k + 1) n f l (by simpa using h) (fun m g' hmn hg => hd (m + 1) g' (by omega) (by simpa using hg)) hm]
    congr 2
    omega
theorem stepFrom_some : ∀ (fs : List (Str × Str)) (k : Int) (l : List Str) (x : StepV), stepFrom k fs l = some x → ∃ n f, fs[n]? = some f ∧ meets f l = true ∧ argsT f.2 l.tail ⟨k + (n : Nat) + 1, 0, 0, [], []⟩ = some x
  | [], k, l, x, h => by cases h
  | g :: r, k, l, x, h => by
    rw [stepFrom] at h
    split at h
    · rename_i hm
      exact ⟨0, g, rfl, hm, by rw [Int.natCast_zero, Int.add_zero]; exact h⟩
    · obtain ⟨n, f, h1, h2, h3⟩ := stepFrom_some r (k + 1) l x h
      refine ⟨n + 1, f, by simpa using h1, h2, ?_⟩
      rw [show k + ((n + 1 : Nat) : Int) = k + 1 + (n : Int) by omega]
      exact h3
def kinds : List Str := [[107, 100], [107], [97], [], [97, 98]]
theorem forms_facts : ∀ f ∈ formsT, (32 : UInt8) ∉ f.1 ∧ (10 : UInt8) ∉ f.1 ∧ f.2 ∈ kinds := by decide
theorem forms_apart : ∀ n : Fin 19, ∀ m : Fin 19, m.val < n.val → (formsT[m.val]?.map Prod.fst) ≠ (formsT[n.val]?.map Prod.fst) := by decide
theorem forms_len : formsT.length = 19 := rfl
theorem apart {n : Nat} {f : Str × Str} (hf : formsT[n]? = some f) : ∀ m g, m < n → formsT[m]? = some g → g.1 ≠ f.1 := fun m g hm hg e => by
  have hn : n < 19 := (List.getElem?_eq_some_iff.1 hf).1
  have h := forms_apart ⟨n, hn⟩ ⟨m, by omega⟩ hm
  simp only [hf, hg, Option.map_some, e] at h
  exact h rfl
def Wf64 (n : Int) : Prop := -9223372036854775808 ≤ n ∧ n ≤ 9223372036854775807
theorem args_parts {x : StepV} {has : Str} (hk : has ∈ kinds) (hf : fitsT has x = true) (ha : Wf64 x.a) (hb : Wf64 x.b) : argsT has (has.map (partT x)) ⟨x.kind, 0, 0, [], []⟩ = some x := by
  obtain ⟨k, a, b, key, data⟩ := x
  simp only [kinds, List.mem_cons, List.not_mem_nil, or_false] at hk
  rcases hk with rfl | rfl | rfl | rfl | rfl
  · obtain ⟨rfl, rfl⟩ : a = 0 ∧ b = 0 := by simpa [fitsT] using hf
    simp [argsT, setT, partT, unhexT_hex]
  · obtain ⟨⟨rfl, rfl⟩, rfl⟩ : (data = [] ∧ a = 0) ∧ b = 0 := by simpa [fitsT] using hf
    simp [argsT, setT, partT, unhexT_hex]
  · obtain ⟨⟨rfl, rfl⟩, rfl⟩ : (key = [] ∧ data = []) ∧ b = 0 := by simpa [fitsT] using hf
    simp [argsT, setT, partT, numT_itoa ha.1 ha.2]
  · obtain ⟨⟨⟨rfl, rfl⟩, rfl⟩, rfl⟩ : ((key = [] ∧ data = []) ∧ a = 0) ∧ b = 0 := by simpa [fitsT] using hf
    simp [argsT]
  · obtain ⟨rfl, rfl⟩ : key = [] ∧ data = [] := by simpa [fitsT] using hf
    simp [argsT, setT, partT, numT_itoa ha.1 ha.2, numT_itoa hb.1 hb.2]
/-- A step's line says the step. -/
theorem line_step {x : StepV} {s : Str} (h : lineT x = some s) (ha : Wf64 x.a) (hb : Wf64 x.b) : stepT s = some x := by
  unfold lineT at h
  cases hf : formAt x.kind with
  | none => rw [hf] at h; cases h
  | some f =>
    rw [hf] at h
    simp only at h
    split at h
    · rename_i hft
      injection h with h
      subst h
      unfold formAt at hf
      split at hf
      · rename_i hk
        obtain ⟨h1, h2, h3⟩ := forms_facts f (List.mem_of_getElem? hf)
        unfold stepT
        rw [split_tail x f.1 f.2 h1, stepFrom_at formsT 0 _ f _ hf (apart hf) (by simp [meets, Nat.add_comm]), List.tail_cons, show (0 : Int) + ((x.kind - 1).toNat : Int) + 1 = x.kind by omega]
        exact args_parts h3 hft ha hb
      · cases hf
    · cases h
theorem join_tail (x : StepV) : ∀ (has wd : Str), wd ++ tailT x has = joinT 32 (wd :: has.map (partT x))
  | [], wd => by simp [tailT, joinT]
  | c :: cs, wd => by
    rw [List.map_cons, joinT, ← join_tail x cs]
    simp [tailT]
theorem set_some {x y : StepV} {c : UInt8} {s : Str} (h : setT x c s = some y) : (c = 107 ∧ ∃ b, unhexT s = some b ∧ y = { x with key := b }) ∨ (c ≠ 107 ∧ c = 100 ∧ ∃ b, unhexT s = some b ∧ y = { x with data := b }) ∨
    (c ≠ 107 ∧ c ≠ 100 ∧ c = 97 ∧ ∃ n, numT s = some n ∧ y = { x with a := n }) ∨ (c ≠ 107 ∧ c ≠ 100 ∧ c ≠ 97 ∧ ∃ n, numT s = some n ∧ y = { x with b := n }) := by
  unfold setT at h
  split at h
  · obtain ⟨b, h1, h2⟩ := Option.map_eq_some_iff.1 h
    exact .inl ⟨by assumption, b, h1, h2.symm⟩
  · split at h
    · obtain ⟨b, h1, h2⟩ := Option.map_eq_some_iff.1 h
      exact .inr (.inl ⟨by assumption, by assumption, b, h1, h2.symm⟩)
    · split at h
      · obtain ⟨b, h1, h2⟩ := Option.map_eq_some_iff.1 h
        exact .inr (.inr (.inl ⟨by assumption, by assumption, by assumption, b, h1, h2.symm⟩))
      · obtain ⟨b, h1, h2⟩ := Option.map_eq_some_iff.1 h
        exact .inr (.inr (.inr ⟨by assumption, by assumption, by assumption, b, h1, h2.symm⟩))
theorem two_of {ss : List Str} (h : ss.length = 2) : ∃ s1 s2, ss = [s1, s2] := by
  match ss, h with
  | [s1, s2], _ => exact ⟨s1, s2, rfl⟩
theorem parts_args {k : Int} {has : Str} {ss : List Str} {x : StepV} (hk : has ∈ kinds) (hl : ss.length = has.length) (h : argsT has ss ⟨k, 0, 0, [], []⟩ = some x) :
    x.kind = k ∧ fitsT has x = true ∧ ss = has.map (partT x) ∧ Wf64 x.a ∧ Wf64 x.b := by
  have w0 : Wf64 0 := ⟨by omega, by omega⟩
  simp only [kinds, List.mem_cons, List.not_mem_nil, or_false] at hk
  rcases hk with rfl | rfl | rfl | rfl | rfl
  · obtain ⟨s1, s2, rfl⟩ : ∃ s1 s2, ss = [s1, s2] := two_of hl
    simp only [argsT, setT, Option.bind_eq_some_iff, Option.map_eq_some_iff, if_true] at h
    obtain ⟨_, ⟨b1, h1, rfl⟩, _, h2, h3⟩ := h
    rw [if_neg (by decide)] at h2
    obtain ⟨b2, h4, rfl⟩ := Option.map_eq_some_iff.1 h2
    injection h3 with h3
    subst h3
    exact ⟨rfl, by simp [fitsT], by simp [partT, hex_unhexT h1, hex_unhexT h4], w0, w0⟩
  · obtain ⟨s1, rfl⟩ : ∃ s1, ss = [s1] := List.length_eq_one_iff.1 hl
    simp only [argsT, setT, Option.bind_eq_some_iff, Option.map_eq_some_iff, if_true] at h
    obtain ⟨_, ⟨b1, h1, rfl⟩, h3⟩ := h
    injection h3 with h3
    subst h3
    exact ⟨rfl, by simp [fitsT], by simp [partT, hex_unhexT h1], w0, w0⟩
  · obtain ⟨s1, rfl⟩ : ∃ s1, ss = [s1] := List.length_eq_one_iff.1 hl
    obtain ⟨y, h1, h3⟩ := Option.bind_eq_some_iff.1 h
    rcases set_some h1 with ⟨h, _⟩ | ⟨_, h, _⟩ | ⟨_, _, _, n, hn, rfl⟩ | ⟨_, _, h, _⟩
    · exact absurd h (by decide)
    · exact absurd h (by decide)
    · injection h3 with h3
      subst h3
      obtain ⟨e1, e2⟩ := numT_some hn
      exact ⟨rfl, by simp [fitsT], by simp [partT, e1], e2, w0⟩
    · exact absurd rfl h
  · obtain rfl : ss = [] := List.eq_nil_of_length_eq_zero hl
    injection h with h
    subst h
    exact ⟨rfl, by simp [fitsT], rfl, w0, w0⟩
  · obtain ⟨s1, s2, rfl⟩ : ∃ s1 s2, ss = [s1, s2] := two_of hl
    obtain ⟨y, h1, h3⟩ := Option.bind_eq_some_iff.1 h
    rcases set_some h1 with ⟨h, _⟩ | ⟨_, h, _⟩ | ⟨_, _, _, n, hn, rfl⟩ | ⟨_, _, h, _⟩
    · exact absurd h (by decide)
    · exact absurd h (by decide)
    · obtain ⟨z, h4, h5⟩ := Option.bind_eq_some_iff.1 h3
      rcases set_some h4 with ⟨h, _⟩ | ⟨_, h, _⟩ | ⟨_, _, h, _⟩ | ⟨_, _, _, m, hm, rfl⟩
      · exact absurd h (by decide)
      · exact absurd h (by decide)
      · exact absurd h (by decide)
      · injection h5 with h5
        subst h5
        obtain ⟨e1, e2⟩ := numT_some hn
        obtain ⟨e3, e4⟩ := numT_some hm
        exact ⟨rfl, by simp [fitsT], by simp [partT, e1, e3], e2, e4⟩
    · exact absurd rfl h
/-- A line that says a step is the step's line. -/
theorem step_line {s : Str} {x : StepV} (h : stepT s = some x) : lineT x = some s ∧ Wf64 x.a ∧ Wf64 x.b ∧ 1 ≤ x.kind ∧ x.kind ≤ 19 := by
  obtain ⟨n, f, hf, hm, ha⟩ := stepFrom_some _ _ _ _ h
  obtain ⟨h1, h2, h3⟩ := forms_facts f (List.mem_of_getElem? hf)
  have hn : n < 19 := (List.getElem?_eq_some_iff.1 hf).1
  unfold meets at hm
  simp only [Bool.and_eq_true, decide_eq_true_eq] at hm
  have hj := join_split 32 s
  cases hs : splitT 32 s with
  | nil => exact absurd hs (splitT_ne _ _)
  | cons wd ss =>
    rw [hs] at hm ha hj
    simp only [List.head?_cons, Option.some.injEq, List.length_cons, List.tail_cons] at hm ha
    obtain ⟨k1, k2, k3, k4, k5⟩ := parts_args h3 (by omega) ha
    have hfa : formAt x.kind = some f := by
      unfold formAt
      rw [k1, if_pos (by omega), show ((0 : Int) + n + 1 - 1).toNat = n by omega]
      exact hf
    refine ⟨?_, k4, k5, by omega, by omega⟩
    unfold lineT
    rw [hfa]
    simp only
    rw [if_pos k2, join_tail, ← k3, ← hm.1, hj]
/-- No line has a sign of a line's end. -/
theorem line_calm {x : StepV} {s : Str} (h : lineT x = some s) : (10 : UInt8) ∉ s := by
  unfold lineT at h
  cases hf : formAt x.kind with
  | none => rw [hf] at h; cases h
  | some f =>
    rw [hf] at h
    simp only at h
    split at h
    · injection h with h
      subst h
      unfold formAt at hf
      split at hf
      · obtain ⟨h1, h2, h3⟩ := forms_facts f (List.mem_of_getElem? hf)
        intro e
        rcases List.mem_append.1 e with e | e
        · exact h2 e
        · unfold tailT at e
          obtain ⟨c, _, hc⟩ := List.mem_flatMap.1 e
          rcases List.mem_cons.1 hc with hc | hc
          · exact absurd hc (by decide)
          · unfold partT at hc
            split at hc
            · exact (calm_hex _ _ hc).2 rfl
            · split at hc
              · exact (calm_hex _ _ hc).2 rfl
              · split at hc
                · exact (calm_itoa _ _ hc).2 rfl
                · exact (calm_itoa _ _ hc).2 rfl
      · cases hf
    · cases h

/-! Texts. -/
def linesT (s : Str) : List Str := if (splitT 10 s).getLast? = some [] then (splitT 10 s).dropLast else splitT 10 s
inductive ReadV where
  | ok (l : List StepV)
  | over
  | bad (n : Nat)
def readFrom (acc : List StepV) : List Str → ReadV
  | [] => .ok acc
  | s :: r => if 65536 ≤ acc.length then .over else match stepT s with
    | none => .bad (acc.length + 1)
    | some x => readFrom (acc ++ [x]) r
def readT (s : Str) : ReadV := readFrom [] (linesT s)
end Go.Proofs.YtkkmojbaoflafaaDoor
