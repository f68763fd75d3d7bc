/- Appends onto what a call has handed out; a row of strings, sorted. No condition beyond those that each theorem states. -/
import Derived.Test.YtmkccblcmiflfaaKC19
import Derived.ArgAppend
namespace Go.Proofs.Ytmkccblcmiflfaa
open Go.RowKit Go.Maps Go.WideMaps Go.Sort Go.Shelf

/-- A row to append to: one that a call has handed out, clipped, or one of the walk's own. -/
def StAt (w0 : World) (lo : Nat) (w : World) (t : TypeId) (size : Nat) (v : Value) (n : Nat) (xs : List Value) : Prop :=
  (xs.length = n * size ∧ OutAt w0 w t v n xs) ∨ w.ownsRow lo t size v n xs
theorem StAt.below {w0 w w' : World} {lo : Nat} {t : TypeId} {size n : Nat} {v : Value} {xs : List Value} (h : StAt w0 lo w t size v n xs) (hb : Below w.heap.size w w') : StAt w0 lo w' t size v n xs :=
  h.imp (fun h => ⟨h.1, h.2.below hb⟩) (fun h => own_of_eq h (fun g hg => hb.block g (h.lt g hg).2))
theorem StAt.out {w0 w : World} {lo : Nat} (hlo : w0.heap.size ≤ lo) {t : TypeId} {size n : Nat} {v : Value} {xs : List Value} (h : StAt w0 lo w t size v n xs) : ∃ B c, v = .slice B n c ∧ n ≤ c ∧ c ≤ max maxLen n ∧ ((B = none ∧ n = 0 ∧ c = 0 ∧ xs = []) ∨ ∃ g, B = some ⟨g, 0, none⟩ ∧ w0.heap.size ≤ g ∧ RowAt w g t xs) := by
  rcases h with ⟨_, ⟨rfl, rfl, rfl⟩ | ⟨g, rfl, h1, h2⟩⟩ | h
  · exact ⟨none, 0, rfl, Nat.le_refl _, by omega, .inl ⟨rfl, rfl, rfl, rfl⟩⟩
  · exact ⟨_, _, rfl, Nat.le_refl _, by omega, .inr ⟨g, rfl, h1, h2⟩⟩
  · have hl := h.1
    rcases h.2 with ⟨rfl, rfl⟩ | ⟨g, cap, cur, rfl, h1, h2, h3, h4, h5, h6⟩
    · exact ⟨none, 0, rfl, Nat.le_refl _, by omega, .inl ⟨rfl, rfl, rfl, List.eq_nil_of_length_eq_zero (by simpa using hl)⟩⟩
    · exact ⟨_, cap, rfl, h3, by omega, .inr ⟨g, rfl, Nat.le_trans hlo h1, RowAt.of_own h⟩⟩
theorem wpList_append_st {P : Program} (w0 : World) (lo : Nat) (w : World) {ops : Array Oper} {rest : List Oper} {o : Oper} {a : Act} {Q : Exit → Act → World → Prop} (hgd : o.guard = none) (s x : Operand) (t : TypeId)
    (ho : o.op = .call { callee := .builtin .append, args := #[s, x], argTypes := #[t, t] })
    (e : TypeId) (i : TypeInfo) (z : Value) (size bytes : Nat) (ht : P.underlying t = some (.slice e)) (hi : P.info? e = some i) (hz : i.zero = some z)
    (hsize : i.size = size) (hby : i.bytes = bytes) (hzs : z.cells.size = size) (hsz : 0 < size)
    (v : Value) (n : Nat) (xs : List Value) (hs : a.eval s = v) (hst : StAt w0 lo w e size v n xs)
    (ad : Addr) (m c : Nat) (news : List Value) (hx : a.eval x = .slice (some ad) m c) (hl : news.length = m * size) (hm : 0 < m) (hr : SrcAt w (some ad) m news) (h1 : ∀ u ∈ news, u.oneCell' = true)
    (h63 : n + m ≤ maxLen) (hbytes : (n + m) * bytes ≤ 140737488355328) (hbase : lo ≤ w.heap.size)
    (h : ∀ v' w', w'.ownsRow lo e size v' (n + m) (xs ++ news) → Below lo w w' → wpList P ops Q rest (a.put o.dst v') w') : wpList P ops Q (o :: rest) a w := by
  rcases hst with ⟨hxl, hout⟩ | hown
  · have hform : ∃ ao, v = .slice ao n n ∧ (ao = none → n = 0 ∧ n = 0) ∧ ∀ b, ao = some b → ∀ j u, xs[j]? = some u → w.cell? (b.add j) = some u := by
      rcases hout with ⟨rfl, rfl, rfl⟩ | ⟨g, rfl, _, hrow⟩
      · exact ⟨none, rfl, fun _ => ⟨rfl, rfl⟩, fun b hb => by cases hb⟩
      · refine ⟨some ⟨g, 0, none⟩, rfl, (fun e => by cases e), fun b hb j u hu => ?_⟩
        injection hb with hb
        subst hb
        rw [add_plain]
        simpa using hrow.cell hu
    obtain ⟨ao, rfl, hnone, hcells⟩ := hform
    have hcn : ∀ j u, news[j]? = some u → w.cell? (ad.add j) = some u := by
      intro j u hu
      rcases hr with ⟨h0, _⟩ | ⟨b, off, h, hc⟩
      · omega
      · injection h with h
        subst h
        rw [add_plain]
        exact hc j u hu
    refine wpList_append_grows w hgd s x t ho e i z size bytes ht hi hz hsize hby hzs hsz ao n n xs hs hnone hxl hcells ad m c news hx hl hcn h1 (by omega) h63 hbytes fun v' w' ho' hg' => ?_
    exact h v' w' (own_le ho' hbase) ⟨hg'.os, hg'.tape, hg'.output, hg'.size, fun k hk => hg'.block k (by omega) (by simp)⟩
  · refine wpList_append_src w hgd s x t ho lo e i z size bytes ht hi hz hsize hby hzs hsz v n xs hs hown (some ad) m c news hx hl (fun e => by cases e) hr h1 h63 hbytes hbase fun v' w' ho' hg' _ => ?_
    exact h v' w' ho' ⟨hg'.os, hg'.tape, hg'.output, hg'.size, fun k hk => hg'.block k (by omega) (fun e => by have := (hown.lt k e.symm).1; omega)⟩
theorem take_putStr (cur : Array Value) (ts : List Str) (h : ts.length ≤ cur.size) : (putCells encStr 0 ts.toArray cur).toList.take ts.length = strVals ts := by
  apply List.ext_getElem?
  intro j
  unfold strVals
  by_cases hj : j < ts.length
  · rw [List.getElem?_take_of_lt hj, Array.getElem?_toList]
    simp [putCells, hj, show j < cur.size by omega]
  · rw [List.getElem?_take_eq_none (by omega), List.getElem?_eq_none (by simp; omega)]
set_option maxHeartbeats 1000000 in
theorem sortStr (g cap : Nat) (l : List Str) (w : World) (hrow : RowAt w g 9 (strVals l)) (hl : l.length ≤ 1000000) :
    Calls Try.prog 38 #[.slice (some ⟨g, 0, none⟩) l.length cap] w fun e w' => e = .returned (.tuple #[]) ∧ RowAt w' g 9 (strVals (sortS l)) ∧ w.grownBy w' (some g) := by
  obtain ⟨cs, hb, htk⟩ := hrow
  have hvl : (strVals l).length = l.length := by simp [strVals]
  have hcs : l.length ≤ cs.size := by
    have h := congrArg List.length htk
    rw [List.length_take, hvl] at h
    simp only [Array.length_toList] at h
    omega
  have hH : Holds encStr w g 0 l.toArray := fun j hj => by
    have hj' : j < l.length := by simpa using hj
    refine ⟨?_, RowAt.free ⟨cs, hb, htk⟩ _⟩
    have h := RowAt.cell (i := j) (u := encStr l[j]) ⟨cs, hb, htk⟩ (by simp [strVals, List.getElem?_eq_getElem hj'])
    simpa [hj'] using h
  refine (AnyM.slices_Sort_string sortE g 0 cap l w hH (Array.getElem?_eq_some_iff.1 hb).1 (by omega)).mono ?_
  rintro e w' ⟨rfl, n, os, rfl⟩
  have hlt := (Array.getElem?_eq_some_iff.1 hb).1
  refine ⟨rfl, ⟨putCells encStr 0 (sortS l).toArray cs, ?_, ?_⟩, ⟨rfl, rfl, rfl, by simp [Sort.grow, Sort.putRow, Sort.mapBlock, Sort.ahead], fun k hk hne => ?_⟩⟩
  · unfold Sort.grow Sort.putRow Sort.mapBlock Sort.ahead
    rw [Array.getElem?_append_left (by simpa using hlt), Array.getElem?_modify, if_pos rfl, hb]
    rfl
  · have h := take_putStr cs (sortS l) (by rw [sortS_len]; exact hcs)
    have e : (strVals (sortS l)).length = (sortS l).length := by simp [strVals]
    rw [e]
    exact h
  · have hkg : g ≠ k := fun e => hne (by rw [e])
    simp only [Sort.grow, Sort.putRow, Sort.mapBlock, Sort.ahead]
    rw [Array.getElem?_append_left (by simpa using hk), Array.getElem?_modify, if_neg hkg]
end Go.Proofs.Ytmkccblcmiflfaa
