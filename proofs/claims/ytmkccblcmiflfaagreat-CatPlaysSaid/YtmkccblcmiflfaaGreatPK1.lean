/- Texts joined: K, K2, K3, K4, G1, KM, KB, KC1, KC2, KC3, KC4, KC5, KD, KC6. No condition beyond those that each theorem states. -/
import Derived.Test.YtmkccblcmiflfaaGreatPK0
import Derived.Test.YtmkccblcmiflfaaGreatRows
import Derived.WalkKit
import Derived.ProofKit
import Derived.OpenShut
import Derived.SizedLaws
import Derived.Deep.Slices
import Derived.Deep.Fields
import Derived.ChangeSame
import Derived.Deep.Draws
import Derived.Lib.Hide
import Derived.Maps.AppendAt
import Derived.Deep.AppendLies
import Derived.RegionTactic
import Derived.OwnWalk
import Derived.Laws.BytesArg
import Derived.Maps.Own
import Derived.Maps.OwnOps
import Derived.Maps.OwnSet
import Derived.StringKeys
import Derived.Sort.KeysCollected
import Derived.WalkSpells
import Derived.WalkLawsBesides
import Derived.BigQuiet
import Derived.Deep.QuietTactic
import Derived.Outline
import Derived.Deep.RegionHeld3
import Derived.Deep.DeepCutAuto
import Derived.Deep.CutBlock
import Derived.Deep.RegionLaw
import Derived.Lib.SliceRun
import Derived.Deep.RegionHeld
import Derived.Deep.DrawnRows
namespace Go.Proofs.YtmkccblcmiflfaaGreat
open Go.ChangeShapes Go.WideShapes Go.ChangeAt Go.RowKit Go.Deep

section
variable {H : Type} {enc : TypeId × Value → H} {P : Program}

theorem trodAll_below (hl : laidOutB P = true) {W W' : World} (hb : Below W.heap.size W W') : ∀ (ts : List TypeId) (vs : List Value) (ds : List (DataW H)) (ps : List MemPlace),
    (∀ t ∈ ts, P.readableRec t = true ∧ t < P.types.size) → (∀ x ∈ ps, x.block < W.heap.size) → DataW.TrodAll enc P W 0 (fun _ => true) true ts vs ds ps →
    DataW.TrodAll enc P W' 0 (fun b => decide (b < W.heap.size)) true ts vs ds ps := by
  intro ts
  induction ts with
  | nil =>
    intro vs ds ps _ _ h
    obtain ⟨rfl, rfl, rfl⟩ := trodAll_nil h
    exact trodAll_mk0
  | cons t ts ih =>
    intro vs ds ps ht hp h
    obtain ⟨v, vs', d, ds', p, q, rfl, rfl, rfl, h1, h2⟩ := trodAll_cons h
    have ht1 := ht t (by simp)
    exact trodAll_cons_mk (Below.trod hl ht1.1 ht1.2 h1 hb (fun x hx => hp x (by simp [hx]))) (ih vs' ds' q (fun t' h' => ht t' (by simp [h'])) (fun x hx => hp x (by simp [hx])) h2)

/-- A law's answer: true; all that was there is as it was. -/
theorem law_post {f : Func} {s : ChangeSpec} {W W' : World} {args : Array Value} {ds gs : List (DataW H)} {before : List MemPlace} {tb : TypeId} (hl : laidOutB P = true)
    (hpar0 : (f.params.toList.all fun t => P.readableRec t && decide (t < P.types.size)) = true) (hv : s.vars = []) (hrt : f.resultTypes = #[tb]) (hb : P.underlying tb = some .bool)
    (hW : DataW.Whole enc P f.params.toList s.vars false W args.toList ds gs before) (hs : s.fn H (ds ++ gs) = { results := [.lit (.bool true)], args := ds })
    (hbel : Below W.heap.size W W') : s.post enc P f false true false false W args (.bool true) W' := by
  have hpar : ∀ t ∈ f.params.toList, P.readableRec t = true ∧ t < P.types.size := fun t ht => by simpa using List.all_eq_true.1 hpar0 t ht
  have hlt : ∀ p ∈ before, p.block < W.heap.size := fun p hp => hW.lt p hp
  have hW' := hW
  obtain ⟨p, q, hA, hV, hpq, hfz, hnd⟩ := hW'
  have hV' := hV
  rw [hv] at hV'
  obtain ⟨rfl, rfl⟩ := trodVars_none hV'
  rw [List.append_nil] at hpq
  subst hpq
  refine ⟨ds, [], before, [], before, [], hW, ?_, ?_, ?_, World.keptBut_mono (fun p hp => ⟨hp, Or.inr (Or.inl hp)⟩) (hbel.frame (· ∈ before)), fun h => by cases h⟩
  · rw [hs, hrt]
    exact trodAll_cons_mk (shut_bool hb true) trodAll_mk0
  · rw [hs]
    exact trodAll_below hl hbel _ _ _ _ hpar hlt hA
  · rw [hs, hv]
    rfl

variable {w : World} {base : Nat} {spare : Nat → Bool} {held : Bool}

theorem addr_of_cell {w : World} {a : Addr} {u : Value} (h : w.cell? (a.add 0) = some u) : a = ⟨a.block, a.off, none⟩ := by
  obtain ⟨b, o, sp⟩ := a
  simp only [Addr.add, if_true] at h
  cases sp with
  | none => rfl
  | some x =>
    exfalso
    unfold World.cell? at h
    simp only at h
    split at h <;> simp at h

theorem add_plain (b o i : Nat) : (Addr.mk b o none).add i = ⟨b, o + i, none⟩ := by
  unfold Addr.add; split
  · rename_i h; subst h; rfl
  · rfl

/-- A slice of structs of one-cell fields: for each element and field a cell, and how it reads. -/
theorem open_rows {r : Reach} {b0 : Nat} {t e : TypeId} {fs : Array Field} {v : Value} {d : DataW H} {p : List MemPlace} (ht : P.underlying t = some (.slice e)) (he : P.underlying e = some (.struct fs))
    (hone : oneCellFields P fs = true) (hC : P.cellsOf e = fs.size) (hpos : 0 < fs.size) (hv : Value.okWide P w r b0 t v) (h : DataW.Trod enc P w base spare held t v d p) :
    ∃ (A : Option Addr) (n c : Nat), v = .slice A n c ∧ n ≤ c ∧ c ≤ maxLen ∧ (n = 0 ∨ ∃ b off, A = some ⟨b, off, none⟩ ∧ b < w.heap.size ∧
      ∀ (i j : Nat) (f : Field), i < n → fs[j]? = some f → ∃ (u : Value) (y : DataW H × List MemPlace) (m : Nat), w.cell? ⟨b, off + (i * fs.size + j), none⟩ = some u ∧ DataW.trod enc P w base spare held m f.type [u] = some y) := by
  obtain ⟨A, n, c, rfl⟩ := okWide_slice ht hv
  obtain ⟨fuel, hf⟩ := h
  rcases open_slice ht hf with ⟨hcs, _⟩ | ⟨a, len, cap, m, q, D, Pl, hcs, _, hl, hm, hmm, _, hi⟩
  · simp [Value.cells] at hcs
    obtain ⟨rfl, rfl, rfl⟩ := hcs
    exact ⟨_, _, _, rfl, Nat.le_refl _, by simp [maxLen], .inl rfl⟩
  · simp [Value.cells] at hcs
    obtain ⟨rfl, rfl, rfl⟩ := hcs
    refine ⟨_, _, _, rfl, hl, hm, ?_⟩
    rcases Nat.eq_zero_or_pos n with h0 | h0
    · exact .inl h0
    right
    have hnm : n ≤ m := by rw [hmm]; split <;> omega
    have key : ∀ (i j : Nat) (f : Field), i < n → fs[j]? = some f → ∃ (u : Value) (y : DataW H × List MemPlace) (m : Nat), w.cell? (a.add (i * fs.size + j)) = some u ∧ DataW.trod enc P w base spare held m f.type [u] = some y := by
      intro i j f hin hj
      obtain ⟨cs', hc, ht'⟩ := hi i (by omega)
      rw [hC] at hc
      obtain ⟨_, hcl, hat⟩ := World.cells?_some hc
      obtain ⟨xs, n', _, _, _, hxl, hg⟩ := DataW.trod_struct he ht'
      obtain ⟨ho, hk⟩ := hone_of hone j f hj
      have hjl : j < fs.size := (Array.getElem?_eq_some_iff.1 hj).1
      have hcell := hat j hjl
      have hjc : j < cs'.length := by omega
      rw [add_add, List.getElem?_eq_getElem hjc] at hcell
      have h1 := hg j f hj
      rw [ho, hk, List.drop_eq_getElem_cons hjc] at h1
      have hys : xs[j]? = some (xs[j]'(by omega)) := List.getElem?_eq_getElem (by omega)
      exact ⟨cs'[j], xs[j]'(by omega), n', hcell, by rw [← hys, ← h1]; rfl⟩
    obtain ⟨f0, hf0⟩ : ∃ f, fs[0]? = some f := ⟨fs[0], Array.getElem?_eq_getElem hpos⟩
    obtain ⟨u, y, m', hcell, _⟩ := key 0 0 f0 h0 hf0
    have hlt := World.block_lt_of_cell? _ _ hcell
    rw [Nat.zero_mul] at hcell
    have ea := addr_of_cell hcell
    obtain ⟨b, o, sp⟩ := a
    injection ea with _ _ ea
    subst ea
    rw [add_plain] at hlt
    refine ⟨b, o, rfl, hlt, fun i j f hin hj => ?_⟩
    obtain ⟨u, y, m', hcell, hr⟩ := key i j f hin hj
    rw [add_plain] at hcell
    exact ⟨u, y, m', hcell, hr⟩

end
end Go.Proofs.YtmkccblcmiflfaaGreat

namespace Go.Proofs.YtmkccblcmiflfaaGreat
open Go.RowKit

/-- Where the cells of a source lie: it is empty, or they begin at its address. -/
def SrcAt (w : World) (A : Option Addr) (m : Nat) (news : List Value) : Prop :=
  (m = 0 ∧ news = []) ∨ ∃ b off, A = some ⟨b, off, none⟩ ∧ ∀ j u, news[j]? = some u → w.cell? ⟨b, off + j, none⟩ = some u

section
variable {P : Program} (w : World)

theorem run_append_nil_src (base : Nat) (t ty e : TypeId) (i : TypeInfo) (size : Nat) (ht : P.underlying t = some (.slice e)) (hi : P.info? e = some i)
    (v : Value) (n : Nat) (xs : List Value) (hown : w.ownsRow base e size v n xs) (c : Nat) : (Builtin.append_ #[t, t] ty #[v, .slice none 0 c]).run P w = .ok v w := by
  rcases hown.2 with ⟨rfl, rfl⟩ | ⟨g, cap, cur, rfl, _, _, hnc, _⟩
  · simp [Builtin.append_, run_underlying ht, sizeOf, typeInfo, hi, Builtin.lenOf, Builtin.firstCells]
  · simp [Builtin.append_, run_underlying ht, sizeOf, typeInfo, hi, Builtin.lenOf, Builtin.firstCells, hnc, storeCells]

theorem run_append_src (base : Nat) (t ty e : TypeId) (i : TypeInfo) (z : Value) (size bytes : Nat) (ht : P.underlying t = some (.slice e)) (hi : P.info? e = some i) (hz : i.zero = some z)
    (hsize : i.size = size) (hby : i.bytes = bytes) (hzs : z.cells.size = size) (hsz : 0 < size)
    (v : Value) (n : Nat) (xs : List Value) (hown : w.ownsRow base e size v n xs)
    (A : Option Addr) (m c : Nat) (news : List Value) (hl : news.length = m * size) (hA : A = none → m = 0) (hr : SrcAt w A m news) (h1 : ∀ u ∈ news, u.oneCell' = true)
    (h63 : n + m ≤ maxLen) (hbytes : (n + m) * bytes ≤ 140737488355328) (hbase : base ≤ w.heap.size) :
    ∃ v' w', (Builtin.append_ #[t, t] ty #[v, .slice A m c]).run P w = .ok v' w' ∧ w'.ownsRow base e size v' (n + m) (xs ++ news) ∧ w.grownBy w' v.ownBlock ∧
      (v'.ownBlock = v.ownBlock ∨ v'.ownBlock = some w.heap.size) := by
  rcases A with _ | ad
  · obtain rfl := hA rfl
    have hn : news = [] := List.eq_nil_of_length_eq_zero (by simpa using hl)
    subst hn
    exact ⟨v, w, run_append_nil_src w base t ty e i size ht hi v n xs hown c, by simpa using hown, World.grownBy.refl w _, .inl rfl⟩
  · have hcells : ∀ j u, news[j]? = some u → w.cell? (ad.add j) = some u := by
      intro j u hu
      rcases hr with ⟨_, rfl⟩ | ⟨b, off, h, hc⟩
      · simp at hu
      · injection h with h
        subst h
        rw [add_plain]
        exact hc j u hu
    obtain ⟨v', w', hrun, h2, h3, _, h5⟩ := run_append_own_at (P := P) w base t ty e i z size bytes ht hi hz hsize hby hzs hsz v n xs hown ad m c news hl hcells h1 h63 hbytes hbase
    exact ⟨v', w', hrun, h2, h3, h5⟩

theorem wp_append_src {o : Oper} {a : Act} {K : Act → World → Prop} {Q : Exit → Act → World → Prop} (s x : Operand) (t : TypeId)
    (ho : o.op = .call { callee := .builtin .append, args := #[s, x], argTypes := #[t, t] })
    (base : Nat) (e : TypeId) (i : TypeInfo) (z : Value) (size bytes : Nat) (ht : P.underlying t = some (.slice e)) (hi : P.info? e = some i) (hz : i.zero = some z)
    (hsize : i.size = size) (hby : i.bytes = bytes) (hzs : z.cells.size = size) (hsz : 0 < size)
    (v : Value) (n : Nat) (xs : List Value) (hs : a.eval s = v) (hown : w.ownsRow base e size v n xs)
    (A : Option Addr) (m c : Nat) (news : List Value) (hx : a.eval x = .slice A m c) (hl : news.length = m * size) (hA : A = none → m = 0) (hr : SrcAt w A m news) (h1 : ∀ u ∈ news, u.oneCell' = true)
    (h63 : n + m ≤ maxLen) (hbytes : (n + m) * bytes ≤ 140737488355328) (hbase : base ≤ w.heap.size)
    (h : ∀ v' w', w'.ownsRow base e size v' (n + m) (xs ++ news) → w.grownBy w' v.ownBlock → (v'.ownBlock = v.ownBlock ∨ v'.ownBlock = some w.heap.size) → K (a.put o.dst v') w') : o.wp P a w K Q := by
  obtain ⟨v', w', hrun, h2, h3, h4⟩ := run_append_src (P := P) w base t o.type e i z size bytes ht hi hz hsize hby hzs hsz v n xs hown A m c news hl hA hr h1 h63 hbytes hbase
  unfold Oper.wp execOp
  simp only [ho, resolve, invoke, builtin, Sem.run_bind, Sem.run_pure, Result.andThen_ok, List.map_toArray, List.map_cons, List.map_nil, hs, hx, hrun]
  exact h v' w' h2 h3 h4

theorem wpList_append_src {ops : Array Oper} {rest : List Oper} {o : Oper} {a : Act} {Q : Exit → Act → World → Prop} (hgd : o.guard = none) (s x : Operand) (t : TypeId)
    (ho : o.op = .call { callee := .builtin .append, args := #[s, x], argTypes := #[t, t] })
    (base : Nat) (e : TypeId) (i : TypeInfo) (z : Value) (size bytes : Nat) (ht : P.underlying t = some (.slice e)) (hi : P.info? e = some i) (hz : i.zero = some z)
    (hsize : i.size = size) (hby : i.bytes = bytes) (hzs : z.cells.size = size) (hsz : 0 < size)
    (v : Value) (n : Nat) (xs : List Value) (hs : a.eval s = v) (hown : w.ownsRow base e size v n xs)
    (A : Option Addr) (m c : Nat) (news : List Value) (hx : a.eval x = .slice A m c) (hl : news.length = m * size) (hA : A = none → m = 0) (hr : SrcAt w A m news) (h1 : ∀ u ∈ news, u.oneCell' = true)
    (h63 : n + m ≤ maxLen) (hbytes : (n + m) * bytes ≤ 140737488355328) (hbase : base ≤ w.heap.size)
    (h : ∀ v' w', w'.ownsRow base e size v' (n + m) (xs ++ news) → w.grownBy w' v.ownBlock → (v'.ownBlock = v.ownBlock ∨ v'.ownBlock = some w.heap.size) → wpList P ops Q rest (a.put o.dst v') w') : wpList P ops Q (o :: rest) a w :=
  wpList_plain hgd fun _ hK => wp_append_src w s x t ho base e i z size bytes ht hi hz hsize hby hzs hsz v n xs hs hown A m c news hx hl hA hr h1 h63 hbytes hbase fun v' w' h2 h3 h4 => hK _ _ (h v' w' h2 h3 h4)

theorem step_append_src {ops : Array Oper} {o : Oper} {a : Act} {K : Act → World → Prop} {Q : Exit → Act → World → Prop} {E : Prop} (hgd : o.guard = none) (s x : Operand) (t : TypeId)
    (ho : o.op = .call { callee := .builtin .append, args := #[s, x], argTypes := #[t, t] })
    (base : Nat) (e : TypeId) (i : TypeInfo) (z : Value) (size bytes : Nat) (ht : P.underlying t = some (.slice e)) (hi : P.info? e = some i) (hz : i.zero = some z)
    (hsize : i.size = size) (hby : i.bytes = bytes) (hzs : z.cells.size = size) (hsz : 0 < size)
    (v : Value) (n : Nat) (xs : List Value) (hs : a.eval s = v) (hown : w.ownsRow base e size v n xs)
    (A : Option Addr) (m c : Nat) (news : List Value) (hx : a.eval x = .slice A m c) (hl : news.length = m * size) (hA : A = none → m = 0) (hr : SrcAt w A m news) (h1 : ∀ u ∈ news, u.oneCell' = true)
    (h63 : n + m ≤ maxLen) (hbytes : (n + m) * bytes ≤ 140737488355328) (hbase : base ≤ w.heap.size)
    (h : ∀ v' w', w'.ownsRow base e size v' (n + m) (xs ++ news) → w.grownBy w' v.ownBlock → (v'.ownBlock = v.ownBlock ∨ v'.ownBlock = some w.heap.size) → K (a.put o.dst v') w') :
    if Region.wanted o (yielded ops a.tmps) = true then Oper.wp P o a w K Q else E := by
  have hw : Region.wanted o (yielded ops a.tmps) = true := by simp [Region.wanted, hgd]
  rw [if_pos hw]
  exact wp_append_src w s x t ho base e i z size bytes ht hi hz hsize hby hzs hsz v n xs hs hown A m c news hx hl hA hr h1 h63 hbytes hbase h

/-- The same, where the result is not empty: its form. -/
theorem wp_append_form {o : Oper} {a : Act} {K : Act → World → Prop} {Q : Exit → Act → World → Prop} (s x : Operand) (t : TypeId)
    (ho : o.op = .call { callee := .builtin .append, args := #[s, x], argTypes := #[t, t] })
    (base : Nat) (e : TypeId) (i : TypeInfo) (z : Value) (size bytes : Nat) (ht : P.underlying t = some (.slice e)) (hi : P.info? e = some i) (hz : i.zero = some z)
    (hsize : i.size = size) (hby : i.bytes = bytes) (hzs : z.cells.size = size) (hsz : 0 < size)
    (v : Value) (n : Nat) (xs : List Value) (hs : a.eval s = v) (hown : w.ownsRow base e size v n xs)
    (A : Option Addr) (m c : Nat) (news : List Value) (hx : a.eval x = .slice A m c) (hl : news.length = m * size) (hA : A = none → m = 0) (hr : SrcAt w A m news) (h1 : ∀ u ∈ news, u.oneCell' = true)
    (hpos : 0 < n + m) (h63 : n + m ≤ maxLen) (hbytes : (n + m) * bytes ≤ 140737488355328) (hbase : base ≤ w.heap.size)
    (h : ∀ g cap w', w'.ownsRow base e size (.slice (some ⟨g, 0, none⟩) (n + m) cap) (n + m) (xs ++ news) → w.grownBy w' v.ownBlock → (v.ownBlock = some g ∨ g = w.heap.size) → g < w'.heap.size → K (a.put o.dst (.slice (some ⟨g, 0, none⟩) (n + m) cap)) w') : o.wp P a w K Q := by
  refine wp_append_src w s x t ho base e i z size bytes ht hi hz hsize hby hzs hsz v n xs hs hown A m c news hx hl hA hr h1 h63 hbytes hbase fun v' w' h2 h3 h4 => ?_
  have hf := h2.2
  rcases hf with ⟨_, h0⟩ | ⟨g, cap, cur, hv, _, hg, _⟩
  · omega
  · subst hv
    refine h g cap w' h2 h3 ?_ (Array.getElem?_eq_some_iff.1 hg).1
    rcases h4 with h4 | h4
    · exact .inl h4.symm
    · exact .inr (by simpa [Value.ownBlock] using h4)

theorem step_append_form {ops : Array Oper} {o : Oper} {a : Act} {K : Act → World → Prop} {Q : Exit → Act → World → Prop} {E : Prop} (hgd : o.guard = none) (s x : Operand) (t : TypeId)
    (ho : o.op = .call { callee := .builtin .append, args := #[s, x], argTypes := #[t, t] })
    (base : Nat) (e : TypeId) (i : TypeInfo) (z : Value) (size bytes : Nat) (ht : P.underlying t = some (.slice e)) (hi : P.info? e = some i) (hz : i.zero = some z)
    (hsize : i.size = size) (hby : i.bytes = bytes) (hzs : z.cells.size = size) (hsz : 0 < size)
    (v : Value) (n : Nat) (xs : List Value) (hs : a.eval s = v) (hown : w.ownsRow base e size v n xs)
    (A : Option Addr) (m c : Nat) (news : List Value) (hx : a.eval x = .slice A m c) (hl : news.length = m * size) (hA : A = none → m = 0) (hr : SrcAt w A m news) (h1 : ∀ u ∈ news, u.oneCell' = true)
    (hpos : 0 < n + m) (h63 : n + m ≤ maxLen) (hbytes : (n + m) * bytes ≤ 140737488355328) (hbase : base ≤ w.heap.size)
    (h : ∀ g cap w', w'.ownsRow base e size (.slice (some ⟨g, 0, none⟩) (n + m) cap) (n + m) (xs ++ news) → w.grownBy w' v.ownBlock → (v.ownBlock = some g ∨ g = w.heap.size) → g < w'.heap.size → K (a.put o.dst (.slice (some ⟨g, 0, none⟩) (n + m) cap)) w') :
    if Region.wanted o (yielded ops a.tmps) = true then Oper.wp P o a w K Q else E := by
  have hw : Region.wanted o (yielded ops a.tmps) = true := by simp [Region.wanted, hgd]
  rw [if_pos hw]
  exact wp_append_form w s x t ho base e i z size bytes ht hi hz hsize hby hzs hsz v n xs hs hown A m c news hx hl hA hr h1 hpos h63 hbytes hbase h

end
end Go.Proofs.YtmkccblcmiflfaaGreat

namespace Go.Proofs.YtmkccblcmiflfaaGreat
open Go.RowKit

section
variable {α : Type} {vals : α → List Value} {k : Nat} (hk : ∀ x, (vals x).length = k)
include hk

end

section
variable {w : World} {base e size n cap g : Nat} {xs : List Value}
/-- The cells of a row of the call's own. -/
theorem own_cell (h : w.ownsRow base e size (.slice (some ⟨g, 0, none⟩) n cap) n xs) {j : Nat} {u : Value} (hu : xs[j]? = some u) : w.cell? ⟨g, j, none⟩ = some u := by
  have := h.cells (g := g) rfl j u hu
  rw [add_plain, Nat.zero_add] at this
  exact this
theorem own_lt (h : w.ownsRow base e size (.slice (some ⟨g, 0, none⟩) n cap) n xs) : g < w.heap.size := (h.lt g rfl).2
/-- A piece of it, as the source of an append. -/
theorem own_src (h : w.ownsRow base e size (.slice (some ⟨g, 0, none⟩) n cap) n xs) (o m : Nat) (news : List Value) (hn : ∀ q u, news[q]? = some u → xs[o + q]? = some u) : SrcAt w (some ⟨g, o, none⟩) m news :=
  .inr ⟨g, o, rfl, fun q u hu => own_cell h (hn q u hu)⟩
theorem src_new (W : World) (cs : List Value) (t : TypeId) (m : Nat) : SrcAt (W.alloc (.cells cs.toArray t)) (some ⟨W.heap.size, 0, none⟩) m cs :=
  .inr ⟨_, 0, rfl, fun q u hu => by
    rw [Nat.zero_add, cell_of_row _ _ q _ _ (0, 0) (heap_alloc_new W _)]
    simpa using hu⟩
end

/-- Block g is just these cells, none of them frozen. -/
def Blk (w : World) (g : Nat) (t : TypeId) (cs : Array Value) : Prop := w.heap[g]? = some (.cells cs t (0, 0))
section
variable {w w' : World} {g : Nat} {t : TypeId} {cs : Array Value}
theorem Blk.size (h : Blk w g t cs) : g < w.heap.size := (Array.getElem?_eq_some_iff.1 h).1
theorem Blk.cell (h : Blk w g t cs) (i : Nat) : w.cell? ⟨g, i, none⟩ = cs[i]? := cell_of_row w g i cs t (0, 0) h
theorem Blk.free (h : Blk w g t cs) (i : Nat) : w.frozen? ⟨g, i, none⟩ = false := by
  unfold Blk at h
  simp [World.frozen?, h]
theorem Blk.made (w : World) (t : TypeId) (cs : Array Value) : Blk (w.alloc (.cells cs t)) w.heap.size t cs := heap_alloc_new w _
theorem Blk.of_eq (h : Blk w g t cs) (he : w'.heap[g]? = w.heap[g]?) : Blk w' g t cs := he.trans h
theorem Blk.drewN (h : Blk w g t cs) (n : Nat) : Blk (w.drewN n) g t cs := h
theorem Blk.alloc (h : Blk w g t cs) (o : Obj) : Blk (w.alloc o) g t cs := (Below.heap_alloc w o g h.size).trans h
theorem Blk.store (h : Blk w g t cs) (i : Nat) (u : Value) : Blk (w.setCell ⟨g, i, none⟩ u) g t (cs.setIfInBounds i u) := by
  unfold Blk at h ⊢
  simp [World.setCell, Array.getElem?_modify, h]
theorem Blk.apart (h : Blk w g t cs) {p : Addr} (hp : g ≠ p.block) (u : Value) : Blk (w.setCell p u) g t cs := (Below.heap_setCell w p u g hp).trans h
theorem Blk.below {B : Nat} (h : Blk w g t cs) (hb : Below B w w') (hg : g < B) : Blk w' g t cs := (hb.block g hg).trans h
theorem Blk.grown {row : Option Nat} (h : Blk w g t cs) (hb : w.grownBy w' row) (hg : row ≠ some g) : Blk w' g t cs := (hb.block g h.size (fun e => hg e.symm)).trans h
end

section
variable {P : Program} (w : World)
end
end Go.Proofs.YtmkccblcmiflfaaGreat

namespace Go.Proofs.YtmkccblcmiflfaaGreat
open Go.RowKit

theorem below_of_drew {B : Nat} {w w' : World} (h : Below B w.drew w') : Below B w w' := ⟨h.os, h.tape, h.output, h.size, h.block⟩
theorem below_drewN {B : Nat} {a w : World} (h : Below B a w) (n : Nat) : Below B a (w.drewN n) := ⟨h.os, h.tape, h.output, h.size, h.block⟩
/-- A list of bytes as cells. -/
def byteVals (l : List UInt8) : List Value := l.map fun c => .int .u8 (c.toNat : Int)
theorem byteVals_length (l : List UInt8) : (byteVals l).length = l.length := by simp [byteVals]
theorem byteVals_get (l : List UInt8) (i : Nat) : (byteVals l)[i]? = (l[i]?).map fun c => .int .u8 (c.toNat : Int) := by simp [byteVals]
theorem byteVals_one (l : List UInt8) : ∀ u ∈ byteVals l, u.oneCell' = true := by
  intro u hu
  simp only [byteVals, List.mem_map] at hu
  obtain ⟨c, _, rfl⟩ := hu
  rfl

/-- The slice's n elements, read from its address on, are these bytes. -/
def BytesIn (w : World) (A : Option Addr) (n : Nat) (l : List UInt8) : Prop :=
  l.length = n ∧ (n = 0 ∨ ∃ b off, A = some ⟨b, off, none⟩ ∧ b < w.heap.size ∧ ∀ i u, l[i]? = some u → w.cell? ⟨b, off + i, none⟩ = some (.int .u8 (u.toNat : Int)))

theorem BytesIn.empty (w : World) (A : Option Addr) : BytesIn w A 0 [] := ⟨rfl, .inl rfl⟩
theorem BytesIn.keep {w w' : World} {A : Option Addr} {n : Nat} {l : List UInt8} (h : BytesIn w A n l) (hz : w.heap.size ≤ w'.heap.size) (hk : ∀ b off, A = some ⟨b, off, none⟩ → b < w.heap.size → w'.heap[b]? = w.heap[b]?) : BytesIn w' A n l := by
  refine ⟨h.1, h.2.imp id fun ⟨b, off, h1, h2, h3⟩ => ⟨b, off, h1, by omega, fun i u hu => ?_⟩⟩
  exact (World.cell?_of_block (w := w) (a := ⟨b, off + i, none⟩) (hk b off h1 h2)).trans (h3 i u hu)
theorem BytesIn.below {w w' : World} {A : Option Addr} {n : Nat} {l : List UInt8} (h : BytesIn w A n l) (hb : Below w.heap.size w w') : BytesIn w' A n l :=
  h.keep hb.size fun b _ _ hlt => hb.block b hlt
theorem BytesIn.src {w : World} {A : Option Addr} {n : Nat} {l : List UInt8} (h : BytesIn w A n l) : SrcAt w A n (byteVals l) := by
  rcases h.2 with h0 | ⟨b, off, h1, h2, h3⟩
  · exact .inl ⟨h0, by have := h.1; rw [h0] at this; rw [List.eq_nil_of_length_eq_zero this]; rfl⟩
  · refine .inr ⟨b, off, h1, fun j u hu => ?_⟩
    rw [byteVals_get] at hu
    cases hl : l[j]? with
    | none => rw [hl] at hu; cases hu
    | some c =>
      rw [hl] at hu
      injection hu with hu
      subst hu
      exact h3 j c hl

/-- Block g begins with these n cells of element type t; none is frozen. -/
def RowAt (w : World) (g : Nat) (t : TypeId) (vals : List Value) : Prop := ∃ cs : Array Value, w.heap[g]? = some (.cells cs t (0, 0)) ∧ cs.toList.take vals.length = vals
section
variable {w w' : World} {g : Nat} {t : TypeId} {vals : List Value}
theorem RowAt.size (h : RowAt w g t vals) : g < w.heap.size := by
  obtain ⟨cs, h, _⟩ := h
  exact (Array.getElem?_eq_some_iff.1 h).1
theorem RowAt.cell (h : RowAt w g t vals) {i : Nat} {u : Value} (hu : vals[i]? = some u) : w.cell? ⟨g, i, none⟩ = some u := by
  obtain ⟨cs, h, ht⟩ := h
  rw [cell_of_row w g i cs t (0, 0) h]
  have hi : i < vals.length := (List.getElem?_eq_some_iff.1 hu).1
  rw [← ht, List.getElem?_take, if_pos hi] at hu
  simpa using hu
theorem RowAt.free (h : RowAt w g t vals) (i : Nat) : w.frozen? ⟨g, i, none⟩ = false := by
  obtain ⟨cs, h, _⟩ := h
  simp [World.frozen?, h]
theorem RowAt.of_eq (h : RowAt w g t vals) (he : w'.heap[g]? = w.heap[g]?) : RowAt w' g t vals := by
  obtain ⟨cs, h, ht⟩ := h
  exact ⟨cs, he.trans h, ht⟩
theorem RowAt.of_own {base size n cap : Nat} (h : w.ownsRow base t size (.slice (some ⟨g, 0, none⟩) n cap) n vals) : RowAt w g t vals := by
  rcases h.2 with ⟨h, _⟩ | ⟨g', cap', cur, hv, _, h2, _, _, _, h5⟩
  · cases h
  · have e : g = g' := by
      injection hv with hv
      injection hv with hv
      injection hv
    subst e
    exact ⟨cur, h2, by rw [h.1]; exact h5⟩
theorem RowAt.bytesIn {l : List UInt8} (h : RowAt w g t (byteVals l)) : BytesIn w (some ⟨g, 0, none⟩) l.length l :=
  ⟨rfl, .inr ⟨g, 0, rfl, h.size, fun i u hu => by rw [Nat.zero_add]; exact h.cell (by rw [byteVals_get, hu]; rfl)⟩⟩
end

/-- 'string(b)'. -/
theorem run_string_of {P : Program} {w : World} {src e dst : TypeId} (hs : P.underlying src = some (.slice e)) (he : P.underlying e = some (.int .u8)) (hd : P.underlying dst = some .string)
    {A : Option Addr} {n c : Nat} {l : List UInt8} (h : BytesIn w A n l) (hA : A = none ∨ (∃ b off, A = some ⟨b, off, none⟩)) : (convert src dst (.slice A n c)).run P w = .ok (.string ⟨l.toArray⟩) w := by
  rcases hA with rfl | ⟨b, off, rfl⟩
  · rw [run_convert_bytes_nil w src e hs he n c dst hd]
    rcases h.2 with h0 | ⟨b, off, h1, _⟩
    · have hl := h.1
      rw [h0] at hl
      rw [List.eq_nil_of_length_eq_zero hl]
      rfl
    · cases h1
  · rw [run_convert_bytes_arg w src e hs he b off n c (l.map fun u => (u.toNat : Int)) (by simpa using h.1) ?_ dst hd]
    · congr 3
      unfold strOfNums
      rw [List.map_map]
      congr 2
      conv => rhs; rw [← List.map_id l]
      exact List.map_congr_left fun u _ => by simp
    · intro i hi
      rcases h.2 with h0 | ⟨b', off', h1, _, h3⟩
      · omega
      · injection h1 with h1
        injection h1 with h1 h2
        subst h1; subst h2
        have hl := h.1
        have hil : i < l.length := by omega
        rw [h3 i l[i] (List.getElem?_eq_getElem hil)]
        simp [List.getD_eq_getElem?_getD, hil]

end Go.Proofs.YtmkccblcmiflfaaGreat

namespace Go.Proofs.YtmkccblcmiflfaaGreat
open Go.RowKit

/-- Only these blocks have turned. -/
structure Chg (S : Nat → Prop) (w w' : World) : Prop where
  os : w'.os = w.os
  tape : w'.tape = w.tape
  output : w'.output = w.output
  size : w.heap.size ≤ w'.heap.size
  block : ∀ k, k < w.heap.size → ¬ S k → w'.heap[k]? = w.heap[k]?

theorem Chg.refl (S : Nat → Prop) (w : World) : Chg S w w := ⟨rfl, rfl, rfl, Nat.le_refl _, fun _ _ _ => rfl⟩
theorem Chg.trans {S : Nat → Prop} {a b c : World} (h : Chg S a b) (k : Chg S b c) : Chg S a c :=
  ⟨k.os.trans h.os, k.tape.trans h.tape, k.output.trans h.output, Nat.le_trans h.size k.size, fun i hi hs => (k.block i (Nat.lt_of_lt_of_le hi h.size) hs).trans (h.block i hi hs)⟩
/-- What the second turns, beyond the first, is new. -/
theorem Chg.trans' {S T : Nat → Prop} {a b c : World} (h : Chg S a b) (k : Chg T b c) (hT : ∀ i, i < a.heap.size → T i → S i) : Chg S a c :=
  ⟨k.os.trans h.os, k.tape.trans h.tape, k.output.trans h.output, Nat.le_trans h.size k.size, fun i hi hs => (k.block i (Nat.lt_of_lt_of_le hi h.size) (fun ht => hs (hT i hi ht))).trans (h.block i hi hs)⟩
theorem Chg.mono {S T : Nat → Prop} {a b : World} (h : Chg S a b) (hs : ∀ i, S i → T i) : Chg T a b := ⟨h.os, h.tape, h.output, h.size, fun i hi ht => h.block i hi (fun x => ht (hs i x))⟩
theorem Chg.below {S : Nat → Prop} {a b : World} {B : Nat} (h : Chg S a b) (hB : B ≤ a.heap.size) (hs : ∀ i, S i → B ≤ i) : Below B a b :=
  ⟨h.os, h.tape, h.output, h.size, fun i hi => h.block i (Nat.lt_of_lt_of_le hi hB) (fun x => by have := hs i x; omega)⟩
theorem Chg.of_below {a b : World} (S : Nat → Prop) (h : Below a.heap.size a b) : Chg S a b := ⟨h.os, h.tape, h.output, h.size, fun i hi _ => h.block i hi⟩
theorem Chg.drewN {S : Nat → Prop} {a b : World} (h : Chg S a b) (n : Nat) : Chg S a (b.drewN n) := ⟨h.os, h.tape, h.output, h.size, h.block⟩
theorem Chg.alloc {S : Nat → Prop} {a b : World} (h : Chg S a b) (o : Obj) : Chg S a (b.alloc o) :=
  ⟨h.os, h.tape, h.output, Nat.le_trans h.size (by simp), fun i hi hs => (Below.heap_alloc b o i (Nat.lt_of_lt_of_le hi h.size)).trans (h.block i hi hs)⟩
theorem Chg.store {S : Nat → Prop} {a b : World} (h : Chg S a b) {p : Addr} (hp : S p.block ∨ a.heap.size ≤ p.block) (u : Value) : Chg S a (b.setCell p u) :=
  ⟨h.os, h.tape, h.output, by simpa [World.setCell] using h.size, fun i hi hs => (Below.heap_setCell b p u i (by
    rintro rfl
    rcases hp with hp | hp
    · exact hs hp
    · omega)).trans (h.block i hi hs)⟩
theorem Chg.grown {S : Nat → Prop} {a b c : World} {row : Option Nat} (h : Chg S a b) (hg : b.grownBy c row) (hr : ∀ g, row = some g → S g ∨ a.heap.size ≤ g) : Chg S a c :=
  ⟨hg.os.trans h.os, hg.tape.trans h.tape, hg.output.trans h.output, Nat.le_trans h.size hg.size, fun i hi hs => (hg.block i (Nat.lt_of_lt_of_le hi h.size) (fun e => by
    rcases hr i e.symm with h1 | h1
    · exact hs h1
    · omega)).trans (h.block i hi hs)⟩

section
variable {w w' : World} {lv : Value}
theorem own_blk {base : Nat} {e : TypeId} {size n : Nat} {xs : List Value} (h : w.ownsRow base e size lv n xs) {g : Nat} (hg : lv.ownBlock = some g) : ∃ cs, Blk w g e cs := by
  rcases h.2 with ⟨rfl, _⟩ | ⟨g', cap, cur, rfl, _, h2, _⟩
  · simp [Value.ownBlock] at hg
  · have e : g' = g := Option.some.inj hg
    subst e
    exact ⟨cur, h2⟩
theorem blk_ne {g g' : Nat} {t t' : TypeId} {cs cs' : Array Value} (h : Blk w g t cs) (h' : Blk w g' t' cs') (hne : t ≠ t') : g ≠ g' := by
  rintro rfl
  unfold Blk at h h'
  rw [h] at h'
  injection h' with h'
  injection h' with _ ht
  exact hne ht
theorem own_of_eq {base : Nat} {e : TypeId} {size n : Nat} {xs : List Value} (h : w.ownsRow base e size lv n xs) (he : ∀ g, lv.ownBlock = some g → w'.heap[g]? = w.heap[g]?) : w'.ownsRow base e size lv n xs := by
  refine ⟨h.1, ?_⟩
  rcases h.2 with h | ⟨g', cap', cur, hv, h1, h2, h3⟩
  · exact .inl h
  · exact .inr ⟨g', cap', cur, hv, h1, by rw [he g' (by rw [hv]; rfl)]; exact h2, h3⟩
end
/-- A word of a world that rests on the blocks in F alone. -/
structure Owning (R : (Nat → Prop) → World → Prop) : Prop where
  mono : ∀ F G w, R F w → (∀ k, k < w.heap.size → F k → G k) → R G w
  keep : ∀ F w w', R F w → w.heap.size ≤ w'.heap.size → (∀ k, k < w.heap.size → F k → w'.heap[k]? = w.heap[k]?) → R F w'

theorem Owning.below {R : (Nat → Prop) → World → Prop} (hR : Owning R) {F : Nat → Prop} {w w' : World} (h : R F w) (hb : Below w.heap.size w w') : R F w' := hR.keep F w w' h hb.size fun k hk _ => hb.block k hk
theorem Owning.chg {R : (Nat → Prop) → World → Prop} (hR : Owning R) {F S : Nat → Prop} {w w' : World} (h : R F w) (hc : Chg S w w') (hd : ∀ k, k < w.heap.size → F k → ¬ S k) : R F w' := hR.keep F w w' h hc.size fun k hk hf => hc.block k hk (hd k hk hf)

/-- What a call on such a thing does: it turns its own blocks, and may take new ones. -/
def Took (F F' : Nat → Prop) (w w' : World) : Prop := Chg F w w' ∧ ∀ k, F' k → k < w'.heap.size ∧ (F k ∨ w.heap.size ≤ k)
theorem Took.of {R : (Nat → Prop) → World → Prop} (hR : Owning R) {F : Nat → Prop} {w w' : World} (h : R (fun k => F k ∨ w.heap.size ≤ k) w') (hc : Chg F w w') : ∃ F', R F' w' ∧ Took F F' w w' :=
  ⟨fun k => (F k ∨ w.heap.size ≤ k) ∧ k < w'.heap.size, hR.mono _ _ _ h (fun _ hk hf => ⟨hf, hk⟩), hc, fun _ h => ⟨h.2, h.1⟩⟩
theorem Took.same {R : (Nat → Prop) → World → Prop} (hR : Owning R) {F : Nat → Prop} {w w' : World} (h : R F w) (hb : Below w.heap.size w w') : ∃ F', R F' w' ∧ Took F F' w w' :=
  ⟨fun k => F k ∧ k < w.heap.size, hR.below (hR.mono _ _ _ h (fun _ hk hf => ⟨hf, hk⟩)) hb, Chg.of_below _ hb, fun _ h => ⟨Nat.lt_of_lt_of_le h.2 hb.size, .inl h.1⟩⟩
theorem Took.trans {F F' F'' : Nat → Prop} {a b c : World} (h : Took F F' a b) (k : Took F' F'' b c) : Took F F'' a c :=
  ⟨h.1.trans' (k.1.mono (T := F') (fun _ h => h)) (fun i hi hf => (h.2 i hf).2.resolve_right (by omega)), fun i hi => ⟨(k.2 i hi).1, (k.2 i hi).2.elim (fun h' => (h.2 i h').2) (fun h' => .inr (Nat.le_trans h.1.size h'))⟩⟩

/-- A row of one's own. -/
def OwnRow (F : Nat → Prop) (w : World) (t : TypeId) (size : Nat) (v : Value) (n : Nat) (xs : List Value) : Prop :=
  w.ownsRow 0 t size v n xs ∧ ∀ g, v.ownBlock = some g → F g
theorem OwnRow.owning (t : TypeId) (size : Nat) (v : Value) (n : Nat) (xs : List Value) : Owning fun F w => OwnRow F w t size v n xs where
  mono := fun _ _ _ h hs => ⟨h.1, fun g hg => hs g (h.1.lt g hg).2 (h.2 g hg)⟩
  keep := fun _ _ _ h _ hk => ⟨own_of_eq h.1 (fun g hg => hk g (h.1.lt g hg).2 (h.2 g hg)), h.2⟩
theorem OwnRow.nil (F : Nat → Prop) (w : World) (t : TypeId) (size : Nat) : OwnRow F w t size (.slice none 0 0) 0 [] := ⟨World.ownsRow_nil _ _ _ _, fun g hg => by cases hg⟩
/-- Its form: nil, or at the head of its block. -/
theorem OwnRow.form {F : Nat → Prop} {w : World} {t : TypeId} {size n : Nat} {v : Value} {xs : List Value} (h : OwnRow F w t size v n xs) : (v = .slice none 0 0 ∧ n = 0) ∨ ∃ g cap, v = .slice (some ⟨g, 0, none⟩) n cap ∧ n ≤ cap ∧ cap ≤ maxLen ∧ F g ∧ g < w.heap.size := by
  rcases h.1.2 with ⟨h1, h2⟩ | ⟨g, cap, cur, h1, _, h3, h4, h5, _⟩
  · exact .inl ⟨h1, h2⟩
  · exact .inr ⟨g, cap, h1, h4, h5, h.2 g (by rw [h1]; rfl), (Array.getElem?_eq_some_iff.1 h3).1⟩
theorem OwnRow.row {F : Nat → Prop} {w : World} {t : TypeId} {size n g cap : Nat} {xs : List Value} (h : OwnRow F w t size (.slice (some ⟨g, 0, none⟩) n cap) n xs) : RowAt w g t xs := RowAt.of_own h.1
end Go.Proofs.YtmkccblcmiflfaaGreat

namespace Go.Proofs.YtmkccblcmiflfaaGreat
open Go.RowKit Go.Maps Go.WideMaps

section
variable {κ β : Type} [DecidableEq κ]
def hasL (L : List (κ × β)) (k : κ) : Bool := L.any fun q => decide (q.1 = k)
def getL (z : β) (L : List (κ × β)) (k : κ) : β := ((L.find? fun q => decide (q.1 = k)).map Prod.snd).getD z
def delL (L : List (κ × β)) (k : κ) : List (κ × β) := L.filter fun q => !decide (q.1 = k)
def putL (L : List (κ × β)) (k : κ) (v : β) : List (κ × β) := delL L k ++ [(k, v)]
theorem hasL_mem {L : List (κ × β)} {k : κ} : hasL L k = true ↔ k ∈ L.map Prod.fst := by simp [hasL]
theorem hasL_del (L : List (κ × β)) (k x : κ) : hasL (delL L k) x = (hasL L x && !decide (x = k)) := by
  rw [Bool.eq_iff_iff, Bool.and_eq_true, hasL_mem, hasL_mem]
  simp only [delL, List.mem_map, List.mem_filter]
  constructor
  · rintro ⟨q, ⟨h1, h2⟩, rfl⟩
    exact ⟨⟨q, h1, rfl⟩, by simpa using h2⟩
  · rintro ⟨⟨q, h1, rfl⟩, h2⟩
    exact ⟨q, ⟨h1, by simpa using h2⟩, rfl⟩
theorem getL_del (z : β) {L : List (κ × β)} {k x : κ} (h : x ≠ k) : getL z (delL L k) x = getL z L x := by
  unfold getL delL
  rw [List.find?_filter]
  congr 2
  apply congrFun
  congr 1
  funext q
  by_cases hq : q.1 = x
  · simp [hq, h]
  · simp [hq]
theorem getL_no (z : β) {L : List (κ × β)} {k : κ} (h : hasL L k = false) : getL z L k = z := by
  unfold getL
  have : L.find? (fun q => decide (q.1 = k)) = none := by
    rw [List.find?_eq_none]
    intro q hq hk
    unfold hasL at h
    rw [List.any_eq_false] at h
    exact h q hq hk
  rw [this]; rfl
theorem getL_snoc_same (z : β) {L : List (κ × β)} {k : κ} {v : β} (h : hasL L k = false) : getL z (L ++ [(k, v)]) k = v := by
  unfold getL
  have : L.find? (fun q => decide (q.1 = k)) = none := by
    rw [List.find?_eq_none]
    intro q hq hk
    unfold hasL at h
    rw [List.any_eq_false] at h
    exact h q hq hk
  rw [List.find?_append, this]
  simp
theorem getL_snoc_other (z : β) {L : List (κ × β)} {k x : κ} {v : β} (h : x ≠ k) : getL z (L ++ [(k, v)]) x = getL z L x := by
  unfold getL
  rw [List.find?_append]
  have : ¬ k = x := fun e => h e.symm
  cases L.find? (fun q => decide (q.1 = x)) <;> simp [this]
theorem hasL_put (L : List (κ × β)) (k : κ) (v : β) (x : κ) : hasL (putL L k v) x = (hasL L x || decide (x = k)) := by
  unfold putL
  have : hasL (delL L k ++ [(k, v)]) x = (hasL (delL L k) x || decide (k = x)) := by simp [hasL]
  rw [this, hasL_del]
  by_cases h : x = k
  · simp [h]
  · have h' : ¬ k = x := fun e => h e.symm
    simp [h, h']
theorem getL_put_same (z : β) (L : List (κ × β)) (k : κ) (v : β) : getL z (putL L k v) k = v := getL_snoc_same z (by rw [hasL_del]; simp)
theorem getL_put_other (z : β) (L : List (κ × β)) {k x : κ} (v : β) (h : x ≠ k) : getL z (putL L k v) x = getL z L x := by
  unfold putL
  rw [getL_snoc_other z h, getL_del z h]
theorem nodup_del {L : List (κ × β)} (h : (L.map Prod.fst).Nodup) (k : κ) : ((delL L k).map Prod.fst).Nodup := h.sublist ((List.filter_sublist).map _)
theorem nodup_put {L : List (κ × β)} (h : (L.map Prod.fst).Nodup) (k : κ) (v : β) : ((putL L k v).map Prod.fst).Nodup := by
  unfold putL
  rw [List.map_append, List.nodup_append]
  refine ⟨nodup_del h k, by simp, fun a ha b hb e => ?_⟩
  have hb : b = k := by simpa using hb
  subst hb
  subst e
  have := hasL_mem.2 ha
  rw [hasL_del] at this
  simp at this
theorem getL_mem (z : β) {L : List (κ × β)} {k : κ} (h : hasL L k = true) : (k, getL z L k) ∈ L := by
  unfold getL
  cases hf : L.find? (fun q => decide (q.1 = k)) with
  | none =>
    rw [List.find?_eq_none] at hf
    rw [hasL_mem, List.mem_map] at h
    obtain ⟨q, hq, rfl⟩ := h
    exact absurd (by simp) (hf q hq)
  | some q =>
    have h1 := List.mem_of_find?_eq_some hf
    have h2 := List.find?_some hf
    have h3 : q.1 = k := by simpa using h2
    subst h3
    exact h1
theorem getL_at (z : β) {L : List (κ × β)} (h : (L.map Prod.fst).Nodup) {k : κ} {v : β} (hq : (k, v) ∈ L) : getL z L k = v := by
  have h1 := getL_mem z (hasL_mem.2 (List.mem_map.2 ⟨_, hq, rfl⟩))
  have key : ∀ (L : List (κ × β)), (L.map Prod.fst).Nodup → ∀ a b : β, (k, a) ∈ L → (k, b) ∈ L → a = b := by
    intro L
    induction L with
    | nil => intro _ a b ha; cases ha
    | cons x L ih =>
      intro hn a b ha hb
      rw [List.map_cons, List.nodup_cons] at hn
      rcases List.mem_cons.1 ha with ha | ha <;> rcases List.mem_cons.1 hb with hb | hb
      · rw [← ha] at hb; injection hb with _ h; exact h.symm
      · exact absurd (List.mem_map.2 ⟨_, hb, rfl⟩) (by rw [← ha] at hn; exact hn.1)
      · exact absurd (List.mem_map.2 ⟨_, ha, rfl⟩) (by rw [← hb] at hn; exact hn.1)
      · exact ih hn.2 a b ha hb
  exact key L h _ _ h1 hq
end

/-- How an element reads: it is held as it is. -/
def anyE (v : Value) : Option (DataW Value × List MemPlace) := some (.held v, [])
theorem anyE_inv {v u : Value} {ps : List MemPlace} (h : anyE v = some (.held u, ps)) : v = u := by
  simp only [anyE, Option.some.injEq, Prod.mk.injEq, DataW.held.injEq] at h
  exact h.1
/-- How the keys of a type read. -/
structure KeyForm (P : Program) (kt : TypeId) (κ : Type) where
  lit : κ → Lit
  val : κ → Value
  ok : κ → Prop
  inj : ∀ a b, lit a = lit b → a = b
  isk : ∀ a, WideAt.IsKeyLit (lit a)
  key : ∀ a, ok a → keyOf P kt (val a) = some (lit a)
  law : Keyed P kt
def strKey {P : Program} {kt : TypeId} (hu : P.underlying kt = some .string) : KeyForm P kt (List UInt8) where
  lit := .string
  val := encStr
  ok := fun l => l.length ≤ maxLen
  inj := fun a b h => by injection h
  isk := fun _ => trivial
  key := fun l h => by
    have := keyOf_string_mk (P := P) (k := kt) hu (s := ⟨l.toArray⟩) (by simpa [ByteArray.size] using h)
    simpa [encStr] using this
  law := string_keyed hu
def intKey {P : Program} {kt : TypeId} (hu : P.underlying kt = some (.int .i64)) : KeyForm P kt Int where
  lit := .int .i64
  val := .int .i64
  ok := fun n => (Lit.int .i64 n).wf = true
  inj := fun a b h => by injection h
  isk := fun _ => trivial
  key := fun n h => keyOf_int_mk hu h
  law := int_keyed hu

section
variable {P : Program} {kt : TypeId} {κ : Type} [DecidableEq κ] {F : KeyForm P kt κ} {z : Value} {w w' : World} {b N : Nat} {L : List (κ × Value)}
/-- Block b holds a map of these keys and values (N: no more entries than that were ever laid). -/
structure MapAt (F : KeyForm P kt κ) (z : Value) (w : World) (b N : Nat) (L : List (κ × Value)) : Prop where intro ::
  ex : ∃ D, w.ownsMap P kt anyE b N D ∧ (∀ k, Maps.has D (F.lit k) = hasL L k) ∧ (∀ k, D.atKey (F.lit k) (.held z) = .held (getL z L k))
  nd : (L.map Prod.fst).Nodup
theorem MapAt.lt (h : MapAt F z w b N L) : b < w.heap.size := by
  obtain ⟨D, h1, _⟩ := h.ex
  exact h1.lt
theorem MapAt.is_map (h : MapAt F z w b N L) : ∃ es clock, w.heap[b]? = some (.map es clock) := by
  obtain ⟨D, ⟨es, clock, hb, _⟩, _⟩ := h.ex
  exact ⟨es, clock, hb⟩
theorem MapAt.of_eq (h : MapAt F z w b N L) (he : w'.heap[b]? = w.heap[b]?) : MapAt F z w' b N L := by
  obtain ⟨⟨D, ⟨es, clock, hb, h1⟩, h2⟩, h3⟩ := h
  exact ⟨⟨D, ⟨es, clock, he.trans hb, h1⟩, h2⟩, h3⟩
theorem MapAt.mono {M : Nat} (h : MapAt F z w b N L) (hM : N ≤ M) : MapAt F z w b M L := by
  obtain ⟨⟨D, h1, h2⟩, h3⟩ := h
  exact ⟨⟨D, h1.mono hM, h2⟩, h3⟩
theorem MapAt.made (F : KeyForm P kt κ) (z : Value) (w : World) : MapAt F z (w.alloc (.map #[] 0)) w.heap.size 0 [] :=
  ⟨⟨.map [], World.ownsMap_made w P kt anyE, fun _ => rfl, fun _ => rfl⟩, by simp⟩
theorem blk_apart {k : Nat} {t : TypeId} {cs : Array Value} (h : Blk w k t cs) (hm : MapAt F z w b N L) : k ≠ b := fun e => by
  subst e
  obtain ⟨es, clock, hb⟩ := hm.is_map
  unfold Blk at h
  rw [hb] at h
  cases h
theorem MapAt.look (h : MapAt F z w b N L) {t e : TypeId} (ht : P.underlying t = some (.map kt e)) (hz : (zeroValue e).run P w = .ok z w) {k : κ} (hk : F.ok k) :
    (Instr.lookup t (.map (some b)) (F.val k) true).run P w = .ok (.tuple #[getL z L k, .bool (hasL L k)]) w := by
  obtain ⟨⟨D, h1, h2, h3⟩, _⟩ := h
  obtain ⟨v, ps, hrun, hv⟩ := h1.look_ok F.law ht hz (R := anyE) (zd := .held z) (zp := []) rfl (F.key k hk)
  rw [h3] at hv
  rw [hrun, h2, anyE_inv hv]
theorem MapAt.look1 (h : MapAt F z w b N L) {t e : TypeId} (ht : P.underlying t = some (.map kt e)) (hz : (zeroValue e).run P w = .ok z w) {k : κ} (hk : F.ok k) :
    (Instr.lookup t (.map (some b)) (F.val k) false).run P w = .ok (getL z L k) w := by
  obtain ⟨⟨D, h1, h2, h3⟩, _⟩ := h
  obtain ⟨v, ps, hrun, hv⟩ := h1.lookup F.law ht hz (R := anyE) (zd := .held z) (zp := []) rfl (F.key k hk)
  rw [h3] at hv
  rw [hrun, anyE_inv hv]
theorem MapAt.store (h : MapAt F z w b N L) {t e : TypeId} (ht : P.underlying t = some (.map kt e)) (hN : N < maxLen) {k : κ} (hk : F.ok k) (v : Value) :
    ∃ w', (Instr.mapUpdate t (.map (some b)) (F.val k) v).run P w = .ok () w' ∧ MapAt F z w' b (N + 1) (putL L k v) ∧ w.grownBy w' (some b) := by
  obtain ⟨⟨D, h1, h2, h3⟩, h4⟩ := h
  obtain ⟨w', hrun, ho, hg⟩ := h1.update F.law ht hN (F.key k hk) (d := .held v) (ps := []) (val := v) rfl
  have hm := (h1.tidy F.law).isMap
  refine ⟨w', hrun, ⟨⟨_, ho, fun x => ?_, fun x => ?_⟩, nodup_put h4 k v⟩, hg⟩
  · rw [hasL_put]
    by_cases hx : x = k
    · subst hx
      rw [has_put_same hm (F.isk x)]
      simp
    · rw [has_put_other (fun e => hx (F.inj _ _ e)), h2 x]
      simp [hx]
  · by_cases hx : x = k
    · subst hx
      rw [atKey_put_same hm (F.isk x), getL_put_same]
    · rw [atKey_put_other (fun e => hx (F.inj _ _ e)), h3 x, getL_put_other z L v hx]
theorem MapAt.drop (h : MapAt F z w b N L) {t e : TypeId} (ht : P.underlying t = some (.map kt e)) {k : κ} (hk : F.ok k) (ty : TypeId) :
    ∃ w', (Builtin.delete_ #[t, kt] ty #[.map (some b), F.val k]).run P w = .ok (.tuple #[]) w' ∧ MapAt F z w' b N (delL L k) ∧ w.grownBy w' (some b) := by
  obtain ⟨⟨D, h1, h2, h3⟩, h4⟩ := h
  obtain ⟨w', hrun, ho, hg⟩ := h1.drop F.law ht (F.key k hk) ty
  refine ⟨w', hrun, ⟨⟨_, ho, fun x => ?_, fun x => ?_⟩, nodup_del h4 k⟩, hg.grown⟩
  · rw [hasL_del]
    by_cases hx : x = k
    · subst hx
      rw [has_del_same]
      simp
    · rw [has_del_other (fun e => hx (F.inj _ _ e)), h2 x]
      simp [hx]
  · by_cases hx : x = k
    · subst hx
      rw [atKey_del_same, getL_no z (by rw [hasL_del]; simp)]
    · rw [atKey_del_other (fun e => hx (F.inj _ _ e)), h3 x, getL_del z hx]
end
end Go.Proofs.YtmkccblcmiflfaaGreat

namespace Go.Proofs.YtmkccblcmiflfaaGreat
open Go.RowKit

theorem byte_info : (Tryz.prog.info? 5).map (fun i => (i.zero, i.size, i.bytes)) = some (some (.int .u8 0), 1, 1) := by kernel_rfl
theorem own_made (W : World) {base g : Nat} (t : TypeId) (size : Nat) (hg : g = W.heap.size) (h : base ≤ g) : (W.alloc (.cells #[] t)).ownsRow base t size (.slice (some ⟨g, 0, none⟩) 0 0) 0 [] := by
  subst hg
  exact ⟨by simp, .inr ⟨_, 0, #[], rfl, h, heap_alloc_new _ _, Nat.le_refl _, by simp [maxLen], by simp, by simp⟩⟩
/-- The form of a slice of bytes: nil, or at some address. -/
def Form (A : Option Addr) (n c : Nat) : Prop := n ≤ c ∧ c ≤ maxLen ∧ (A = none → n = 0 ∧ c = 0)
/-- Bytes of one's own: nil, or a row from a block's beginning on. -/
def Bys (w : World) (base : Nat) (B : Option Addr) (n c : Nat) (l : List UInt8) : Prop := w.ownsRow base 5 1 (.slice B n c) n (byteVals l)
section
variable {w w' : World} {base : Nat} {B : Option Addr} {n c : Nat} {l : List UInt8}
theorem Bys.form (h : Bys w base B n c l) : Form B n c := by
  rcases h.2 with ⟨e, _⟩ | ⟨g, cap, cur, e, _, _, h1, h2, _⟩
  · cases e
    exact ⟨Nat.le_refl _, by simp [maxLen], fun _ => ⟨rfl, rfl⟩⟩
  · cases e
    exact ⟨h1, h2, fun e => by cases e⟩
theorem Bys.len (h : Bys w base B n c l) : l.length = n := by
  have := h.1
  rw [byteVals_length] at this
  omega
theorem Bys.bytes (h : Bys w base B n c l) : BytesIn w B n l := by
  have hl := h.len
  refine ⟨hl, ?_⟩
  rcases h.2 with ⟨e, h0⟩ | ⟨g, cap, cur, e, _⟩
  · cases e
    exact .inl h0
  · cases e
    right
    refine ⟨g, 0, rfl, own_lt h, fun i u hu => ?_⟩
    rw [Nat.zero_add]
    exact own_cell h (by rw [byteVals_get, hu]; rfl)
theorem Bys.mono (h : Bys w base B n c l) {b2 : Nat} (hb : b2 ≤ base) : Bys w b2 B n c l := by
  obtain ⟨h1, h2⟩ := h
  refine ⟨h1, h2.imp id fun ⟨g, cap, cur, e, h3, h4⟩ => ⟨g, cap, cur, e, by omega, h4⟩⟩
theorem Bys.shape (h : Bys w base B n c l) : (B = none ∧ n = 0 ∧ c = 0) ∨ ∃ g, B = some ⟨g, 0, none⟩ := by
  rcases h.2 with ⟨e, _⟩ | ⟨g, cap, cur, e, _⟩
  · cases e; exact .inl ⟨rfl, rfl, rfl⟩
  · cases e; exact .inr ⟨g, rfl⟩
theorem bys_nil (w : World) (base : Nat) : Bys w base none 0 0 [] := World.ownsRow_nil w base _ _
end

section
set_option maxHeartbeats 1000000
theorem bclone (A : Option Addr) (n c : Nat) (l : List UInt8) (w : World) (hf : Form A n c) (hm : n ≤ 1000000) (h : BytesIn w A n l) :
    Calls Tryz.prog 30 #[.slice A n c] w fun e w' => ∃ B k, e = .returned (.slice B n k) ∧ Bys w' w.heap.size B n k l ∧ Below w.heap.size w w' := by
  have h1 : ∀ w, _ := fun w => Lib.run_eql_slice_nil (P := Tryz.prog) w 29 5 A n c 0 0 Tryz.underlying29
  have H := Lib.hid h
  obtain ⟨i0, hi0, hz0, hz1, hz2⟩ := info_parts byte_info
  clear h
  cases A with
  | none =>
    obtain ⟨rfl, rfl⟩ := hf.2.2 rfl
    go_enter Tryz.func30, Tryz.ntmps30
    go_wp2
    go_ret
    have e : l = [] := List.eq_nil_of_length_eq_zero H.out.1
    subst e
    exact ⟨none, 0, rfl, bys_nil _ _, Below.refl _ _⟩
  | some a =>
    go_enter Tryz.func30, Tryz.ntmps30
    go_wp2_with (
      (at_builtin
       refine wpList_append_src _ rfl (.tmp 5) (.tmp 6) 29 rfl w.heap.size 5 i0 _ 1 1 Tryz.underlying29 hi0 hz0 hz1 hz2 rfl (by omega) _ 0 [] rfl (by exact own_made _ _ 1 rfl (Nat.le_refl _)) (some a) n c (byteVals l) rfl (by rw [byteVals_length, H.out.1, Nat.mul_one]) (fun e => by cases e) (by exact (H.out.below ((Below.refl _ _).alloc (Nat.le_refl _) _)).src) (byteVals_one l) (by simp only [maxLen]; omega) (by omega) (by simp) ?_
       intro v w1 hown hgr hat))
    go_ret
    have hb1 : Below w.heap.size w w1 := ((Below.refl _ _).alloc (Nat.le_refl _) _).grown hgr (by simp) (fun q hq => by have h : w.heap.size = q := Option.some.inj hq; omega)
    rcases hown.2 with ⟨rfl, h0⟩ | ⟨g, cap, cur, rfl, h2⟩
    · have hn0 : n = 0 := by omega
      subst hn0
      exact ⟨none, 0, rfl, by have h := hown; rw [List.nil_append] at h; exact h, hb1⟩
    · refine ⟨some ⟨g, 0, none⟩, cap, by simp, ?_, hb1⟩
      have h := hown
      rw [List.nil_append] at h
      unfold Bys
      rwa [Nat.zero_add] at h
theorem bclip (base : Nat) (B : Option Addr) (n c : Nat) (l : List UInt8) (w : World) (h : Bys w base B n c l) :
    Calls Tryz.prog 49 #[.slice B n c] w fun e w' => e = .returned (.slice B n n) ∧ w = w' := by
  have hn := h.form.1
  rcases h.shape with ⟨rfl, rfl, rfl⟩ | ⟨g, rfl⟩
  · clear h
    go_enter Tryz.func49, Tryz.ntmps49
    go_wp2
    go_ret
    exact ⟨rfl, rfl⟩
  · clear h
    go_enter Tryz.func49, Tryz.ntmps49
    go_wp2
    go_ret
    exact ⟨rfl, rfl⟩
end
end Go.Proofs.YtmkccblcmiflfaaGreat

namespace Go.Proofs.YtmkccblcmiflfaaGreat
open Go.RowKit Go.Maps Go.WideMaps

abbrev Str := List UInt8
abbrev Pls := List (Int × Int)
structure EntV where
  gen : Int
  size : Int
  sum : Str
  places : Pls
structure NoteV where
  kind : Int
  key : Str
  gen : Int
  cart : Int
  data : Str
  sum : Str
  size : Int
  places : Pls
structure CV where
  staged : List (Str × Str)
  entries : List (Str × EntV)
  begun : List (Str × Int)
  tombs : List (Str × Int)
  retired : List Int
  gen : Int
def newC : CV := ⟨[], [], [], [], [], 0⟩

def placeVals (l : Pls) : List Value := l.flatMap fun p => [.int .i64 p.1, .int .i64 p.2]
theorem placeVals_len (l : Pls) : (placeVals l).length = l.length * 2 := by
  induction l with
  | nil => rfl
  | cons x l ih => simp only [placeVals, List.flatMap_cons, List.length_append, List.length_cons, List.length_nil] at *; omega
def PlacesIn (w : World) (A : Option Addr) (n : Nat) (l : Pls) : Prop := l.length = n ∧ SrcAt w A n (placeVals l)
/-- A note as a value. -/
def noteAgg (v : NoteV) (D : Option Addr) (dn dc : Nat) (Q : Option Addr) (qn qc : Nat) : Value :=
  .agg #[.int .i64 v.kind, encStr v.key, .int .i64 v.gen, .int .i64 v.cart, .slice D dn dc, encStr v.sum, .int .i64 v.size, .slice Q qn qc]
structure NoteIn (w : World) (v : NoteV) (D : Option Addr) (dn dc : Nat) (Q : Option Addr) (qn qc : Nat) : Prop where
  dform : Form D dn dc
  data : BytesIn w D dn v.data
  pform : Form Q qn qc
  places : PlacesIn w Q qn v.places
  key : v.key.length ≤ maxLen
  sum : v.sum.length ≤ maxLen
  gen : (Lit.int .i64 v.gen).wf = true
  cart : (Lit.int .i64 v.cart).wf = true
  size : (Lit.int .i64 v.size).wf = true
/-- A blob that waits, where its bytes lie. -/
structure BlobR where
  key : Str
  A : Option Addr
  n : Nat
  c : Nat
  data : Str
def blobVals (l : List BlobR) : List Value := l.flatMap fun r => [encStr r.key, .slice r.A r.n r.c]
def BlobOk (F : Nat → Prop) (w : World) (r : BlobR) : Prop := OwnRow F w 5 1 (.slice r.A r.n r.c) r.n (byteVals r.data)
/-- An entry, where its places lie. -/
structure EntR where
  key : Str
  e : EntV
  A : Option Addr
  n : Nat
  c : Nat
def entVal (r : EntR) : Value := .agg #[encStr r.key, .int .i64 r.e.gen, .int .i64 r.e.size, encStr r.e.sum, .slice r.A r.n r.c]
def entVals (l : List EntR) : List (Str × Value) := l.map fun r => (r.key, entVal r)
def EntOk (F : Nat → Prop) (w : World) (r : EntR) : Prop := OwnRow F w 95 2 (.slice r.A r.n r.c) r.n (placeVals r.e.places)
def tombVals (l : List (Str × Int)) : List Value := l.flatMap fun q => [.int .i64 6, encStr q.1, .int .i64 q.2, .int .i64 0, .slice none 0 0, encStr [], .int .i64 1, .slice none 0 0]
def zeroEnt : Value := .agg #[encStr [], .int .i64 0, .int .i64 0, encStr [], .slice none 0 0]
noncomputable def skey : KeyForm Tryz.prog 9 Str := strKey Tryz.underlying9
noncomputable def ikey : KeyForm Tryz.prog 3 Int := intKey Tryz.underlying3
theorem zeroE (w : World) : (zeroValue 43).run Tryz.prog w = .ok zeroEnt w := by kernel_rfl
theorem zeroI (w : World) : (zeroValue 3).run Tryz.prog w = .ok (.int .i64 0) w := by kernel_rfl
theorem zeroU (w : World) : (zeroValue 76).run Tryz.prog w = .ok (.agg #[]) w := by kernel_rfl
def begunVals (l : List (Str × Int)) : List (Str × Value) := l.map fun q => (q.1, .int .i64 q.2)
def retVals (l : List Int) : List (Int × Value) := l.map fun n => (n, .agg #[])
/-- What all catalogs hold. -/
structure CWf (N : Nat) (C : CV) : Prop where
  staged : C.staged.length ≤ N
  tombs : C.tombs.length ≤ N
  keys : ∀ q ∈ C.staged, 1 ≤ q.1.length ∧ q.1.length ≤ 16 ∧ q.2.length ≤ 512
  ents : ∀ q ∈ C.entries, 1 ≤ q.1.length ∧ q.1.length ≤ 16 ∧ 1 ≤ q.2.gen ∧ q.2.gen ≤ C.gen ∧ 0 ≤ q.2.size ∧ q.2.size ≤ 512 ∧ (q.2.places.length : Int) = max 1 ((q.2.size + 127) / 128) * 10 ∧ q.2.sum.length ≤ maxLen
  marks : ∀ q ∈ C.tombs, 1 ≤ q.1.length ∧ q.1.length ≤ 16 ∧ 1 ≤ q.2 ∧ q.2 ≤ C.gen
  begun : ∀ q ∈ C.begun, 1 ≤ q.1.length ∧ q.1.length ≤ 16 ∧ 1 ≤ q.2 ∧ q.2 ≤ C.gen
  gens : C.begun.Pairwise fun a b => a.2 < b.2
  carts : ∀ n ∈ C.retired, 0 ≤ n ∧ n ≤ 31
  gen : 0 ≤ C.gen ∧ C.gen ≤ 1099511627776
  nds : (C.staged.map Prod.fst).Nodup
  apart : ∀ q ∈ C.staged, hasL C.entries q.1 = false
/-- The catalog at p; all its blocks lie in F. -/
structure CatR (F : Nat → Prop) (w : World) (p N : Nat) (C : CV) (sv tv : Value) (SR : List BlobR) (ER : List EntR) (be bb br : Nat) : Prop where
  blk : Blk w p 68 #[sv, .map (some be), .map (some bb), tv, .map (some br), .int .i64 C.gen]
  fp : F p
  stg : OwnRow F w 70 2 sv C.staged.length (blobVals SR)
  stgs : SR.map (fun r => (r.key, r.data)) = C.staged
  blobs : ∀ r ∈ SR, BlobOk F w r
  ents : MapAt skey zeroEnt w be N (entVals ER)
  fe : F be
  entr : ER.map (fun r => (r.key, r.e)) = C.entries
  entb : ∀ r ∈ ER, EntOk F w r
  begs : MapAt skey (.int .i64 0) w bb N (begunVals C.begun)
  fb : F bb
  tmb : OwnRow F w 32 8 tv C.tombs.length (tombVals C.tombs)
  rets : MapAt ikey (.agg #[]) w br N (retVals C.retired)
  fr : F br
  neq : be ≠ bb ∧ be ≠ br ∧ bb ≠ br
  wf : CWf N C
def CatAt (F : Nat → Prop) (w : World) (p N : Nat) (C : CV) : Prop := ∃ sv tv SR ER be bb br, CatR F w p N C sv tv SR ER be bb br
section
variable {F G : Nat → Prop} {w w' : World} {p N : Nat} {C : CV} {sv tv : Value} {SR : List BlobR} {ER : List EntR} {be bb br : Nat}
theorem CatR.mono (h : CatR F w p N C sv tv SR ER be bb br) (hs : ∀ k, k < w.heap.size → F k → G k) : CatR G w p N C sv tv SR ER be bb br :=
  { h with
    fp := hs p h.blk.size h.fp
    stg := (OwnRow.owning ..).mono _ _ _ h.stg hs
    blobs := fun r hr => (OwnRow.owning ..).mono _ _ _ (h.blobs r hr) hs
    fe := hs be h.ents.lt h.fe
    entb := fun r hr => (OwnRow.owning ..).mono _ _ _ (h.entb r hr) hs
    fb := hs bb h.begs.lt h.fb
    tmb := (OwnRow.owning ..).mono _ _ _ h.tmb hs
    fr := hs br h.rets.lt h.fr }
theorem CatR.keep (h : CatR F w p N C sv tv SR ER be bb br) (hz : w.heap.size ≤ w'.heap.size) (hk : ∀ k, k < w.heap.size → F k → w'.heap[k]? = w.heap[k]?) : CatR F w' p N C sv tv SR ER be bb br :=
  { h with
    blk := h.blk.of_eq (hk p h.blk.size h.fp)
    stg := (OwnRow.owning ..).keep _ _ _ h.stg hz hk
    blobs := fun r hr => (OwnRow.owning ..).keep _ _ _ (h.blobs r hr) hz hk
    ents := h.ents.of_eq (hk be h.ents.lt h.fe)
    entb := fun r hr => (OwnRow.owning ..).keep _ _ _ (h.entb r hr) hz hk
    begs := h.begs.of_eq (hk bb h.begs.lt h.fb)
    tmb := (OwnRow.owning ..).keep _ _ _ h.tmb hz hk
    rets := h.rets.of_eq (hk br h.rets.lt h.fr) }
theorem CatR.below (h : CatR F w p N C sv tv SR ER be bb br) (hb : Below w.heap.size w w') : CatR F w' p N C sv tv SR ER be bb br := h.keep hb.size fun k hk _ => hb.block k hk
theorem CatAt.owning (p N : Nat) (C : CV) : Owning fun F w => CatAt F w p N C where
  mono := fun _ _ _ ⟨sv, tv, SR, ER, be, bb, br, h⟩ hs => ⟨sv, tv, SR, ER, be, bb, br, h.mono hs⟩
  keep := fun _ _ _ ⟨sv, tv, SR, ER, be, bb, br, h⟩ hz hk => ⟨sv, tv, SR, ER, be, bb, br, h.keep hz hk⟩
theorem CatAt.below (h : CatAt F w p N C) (hb : Below w.heap.size w w') : CatAt F w' p N C := (CatAt.owning p N C).below h hb
theorem CatAt.same (h : CatAt F w p N C) (hb : Below w.heap.size w w') : ∃ F', CatAt F' w' p N C ∧ Took F F' w w' := Took.same (CatAt.owning p N C) h hb
end
theorem cNew (w : World) : Calls Tryz.prog 8 #[] w fun e w' => ∃ p, e = .returned (.pointer (some ⟨p, 0, none⟩)) ∧ w.heap.size ≤ p ∧ CatAt (fun k => w.heap.size ≤ k) w' p 0 newC ∧ Below w.heap.size w w' := by
  have hmm := @run_makeMap Tryz.prog
  go_enter Tryz.func8, Tryz.ntmps8
  go_wp2
  go_ret
  obtain ⟨w1, hw1⟩ : ∃ w1, w1 = w.alloc (.map #[] 0) := ⟨_, rfl⟩
  obtain ⟨w2, hw2⟩ : ∃ w2, w2 = w1.alloc (.map #[] 0) := ⟨_, rfl⟩
  obtain ⟨w3, hw3⟩ : ∃ w3, w3 = w2.alloc (.map #[] 0) := ⟨_, rfl⟩
  have z1 : w1.heap.size = w.heap.size + 1 := by rw [hw1, World.size_alloc]
  have z2 : w2.heap.size = w.heap.size + 1 + 1 := by rw [hw2, World.size_alloc, z1]
  have z3 : w3.heap.size = w.heap.size + 1 + 1 + 1 := by rw [hw3, World.size_alloc, z2]
  rw [← hw1, ← hw2, ← hw3]
  generalize hcs : (#[.slice none 0 0, .map (some w.heap.size), .map (some (w.heap.size + 1)), .slice none 0 0, .map (some (w.heap.size + 1 + 1)), .int .i64 0] : Array Value) = cs
  have h1 : MapAt skey zeroEnt w1 w.heap.size 0 [] := by rw [hw1]; exact MapAt.made skey zeroEnt w
  have h2 : MapAt skey (.int .i64 0) w2 (w.heap.size + 1) 0 [] := by rw [hw2, ← z1]; exact MapAt.made skey _ w1
  have h3 : MapAt ikey (.agg #[]) w3 (w.heap.size + 1 + 1) 0 [] := by rw [hw3, ← z2]; exact MapAt.made ikey _ w2
  have h4 : Blk (w3.alloc (.cells cs 68)) (w.heap.size + 1 + 1 + 1) 68 cs := by rw [← z3]; exact Blk.made w3 _ _
  have b2 : Below w1.heap.size w1 w2 := by rw [hw2]; exact (Below.refl _ _).alloc (Nat.le_refl _) _
  have b3 : Below w2.heap.size w2 w3 := by rw [hw3]; exact (Below.refl _ _).alloc (Nat.le_refl _) _
  have b4 : Below w3.heap.size w3 (w3.alloc (.cells cs 68)) := (Below.refl _ _).alloc (Nat.le_refl _) _
  have b1 : Below w.heap.size w w1 := by rw [hw1]; exact (Below.refl _ _).alloc (Nat.le_refl _) _
  subst hcs
  refine ⟨_, rfl, by omega, ⟨_, _, [], [], _, _, _, ⟨h4, (by show w.heap.size ≤ _; omega), OwnRow.nil _ _ _ _, rfl, (fun r hr => by cases hr), h1.of_eq ((b4.block _ (by omega)).trans ((b3.block _ (by omega)).trans (b2.block _ (by omega)))), Nat.le_refl _, rfl, (fun r hr => by cases hr), h2.of_eq ((b4.block _ (by omega)).trans (b3.block _ (by omega))), (by show w.heap.size ≤ _; omega), OwnRow.nil _ _ _ _, h3.of_eq (b4.block _ (by omega)), (by show w.heap.size ≤ _; omega), ⟨by omega, by omega, by omega⟩, ?_⟩⟩, ((b1.trans (b2.mono (by omega))).trans (b3.mono (by omega))).trans (b4.mono (by omega))⟩
  exact ⟨Nat.le_refl _, Nat.le_refl _, by simp [newC], by simp [newC], by simp [newC], by simp [newC], by simp [newC], by simp [newC], by simp [newC], by simp [newC], by simp [newC]⟩
end Go.Proofs.YtmkccblcmiflfaaGreat

namespace Go.Proofs.YtmkccblcmiflfaaGreat
open Go.RowKit Go.Maps Go.WideMaps

section
variable {α : Type}
def idxP (p : α → Bool) : List α → Int
  | [] => -1
  | x :: l => if p x then 0 else if idxP p l < 0 then -1 else idxP p l + 1
theorem idxP_ge (p : α → Bool) : ∀ l, -1 ≤ idxP p l ∧ idxP p l < l.length
  | [] => by simp [idxP]
  | x :: l => by
    have := idxP_ge p l
    simp only [idxP, List.length_cons]
    split
    · omega
    · split <;> omega
/-- The first place at which p holds, from what is known of the places. -/
theorem idxP_at {p : α → Bool} : ∀ {l : List α} {i : Nat} {x : α}, l[i]? = some x → p x = true → (∀ (j : Nat) y, j < i → l[j]? = some y → p y = false) → idxP p l = i
  | [], _, _, h, _, _ => by simp at h
  | y :: l, 0, x, h, hp, _ => by
    have e : y = x := by simpa using h
    subst e
    simp [idxP, hp]
  | y :: l, i + 1, x, h, hp, hlo => by
    have h0 := hlo 0 y (by omega) rfl
    have ih := idxP_at (l := l) (i := i) (by simpa using h) hp (fun j z hj hz => hlo (j + 1) z (by omega) (by simpa using hz))
    simp only [idxP, h0, ih]
    simp
    omega
theorem idxP_none {p : α → Bool} : ∀ {l : List α}, (∀ (j : Nat) y, l[j]? = some y → p y = false) → idxP p l = -1
  | [], _ => rfl
  | y :: l, h => by
    have h0 := h 0 y rfl
    have ih := idxP_none (l := l) (fun j z hz => h (j + 1) z (by simpa using hz))
    simp [idxP, h0, ih]
theorem idxP_neg {p : α → Bool} : ∀ {l : List α}, idxP p l < 0 ↔ l.any p = false
  | [] => by simp [idxP]
  | y :: l => by
    have ih := idxP_neg (p := p) (l := l)
    simp only [idxP, List.any_cons, Bool.or_eq_false_iff]
    by_cases hy : p y = true
    · simp [hy]
    · have hy : p y = false := by simpa using hy
      rw [if_neg (by rw [hy]; simp)]
      by_cases hn : idxP p l < 0
      · rw [if_pos hn]; exact ⟨fun _ => ⟨hy, ih.1 hn⟩, fun _ => by omega⟩
      · rw [if_neg hn]; exact ⟨fun h => by omega, fun h => absurd (ih.2 h.2) hn⟩
end
def isKey {β : Type} (k : Str) (q : Str × β) : Bool := decide (q.1 = k)
def waitsC (C : CV) (k : Str) : Int := idxP (isKey k) C.staged
theorem hasL_any {β : Type} (L : List (Str × β)) (k : Str) : hasL L k = L.any (isKey k) := rfl
theorem waitsC_neg (C : CV) (k : Str) : waitsC C k < 0 ↔ hasL C.staged k = false := idxP_neg
theorem ret_i {a b : Int} (h : a = b) : Ending.returned (.int .i64 a) = .returned (.int .i64 b) := by rw [h]
theorem ret_b {a b : Bool} (h : a = b) : Ending.returned (.bool a) = .returned (.bool b) := by rw [h]
theorem waits1_any (k key : Str) (A : Option Addr) (n c kb : Nat) (w : World) (hk : w.cell? ⟨kb, 0, none⟩ = some (encStr key)) :
    Calls Tryz.prog 66 #[.agg #[encStr k, .slice A n c], .pointer (some ⟨kb, 0, none⟩)] w fun e w' => e = .returned (.bool (decide (k = key))) ∧ Below w.heap.size w w' := by
  have hkb := World.block_lt_of_cell? w _ hk
  have hne : w.heap.size ≠ kb := Nat.ne_of_gt hkb
  have h1 : (w.alloc (.cells #[encStr k, .slice A n c] 70)).cell? ⟨kb, 0, none⟩ = some (encStr key) := (((Below.refl _ w).alloc (Nat.le_refl _) _).cell (p := ⟨kb, 0, none⟩) hkb).trans hk
  by_cases hkk : k = key
  · subst hkk
    go_enter Tryz.func66, Tryz.ntmps66
    go_wp2
    go_ret
    exact ⟨ret_b (by simp), (Below.refl _ w).alloc (Nat.le_refl _) _⟩
  · have e1 : (k == key) = false := by simpa using hkk
    have HKK := Lib.hid hkk
    clear hkk
    go_enter Tryz.func66, Tryz.ntmps66
    go_wp2
    go_ret
    exact ⟨ret_b (by rw [decide_eq_false HKK.out]), (Below.refl _ w).alloc (Nat.le_refl _) _⟩
theorem blobVals_get {SR : List BlobR} {i : Nat} {r : BlobR} (h : SR[i]? = some r) : (blobVals SR)[i * 2]? = some (encStr r.key) ∧ (blobVals SR)[i * 2 + 1]? = some (.slice r.A r.n r.c) := by
  induction SR generalizing i with
  | nil => simp at h
  | cons x SR ih =>
    cases i with
    | zero =>
      have e : x = r := by simpa using h
      subst e
      exact ⟨rfl, rfl⟩
    | succ i =>
      have := ih (i := i) (by simpa using h)
      rw [show (i + 1) * 2 = i * 2 + 1 + 1 by omega]
      simp only [blobVals, List.flatMap_cons, List.cons_append, List.nil_append, List.getElem?_cons_succ]
      exact this
section
set_option maxHeartbeats 1000000
theorem ixBlob (F : Nat → Prop) (v : Value) (n : Nat) (SR : List BlobR) (key : Str) (kb : Nat) (w : World) (h : OwnRow F w 70 2 v n (blobVals SR)) (hn : SR.length = n) (hk : w.cell? ⟨kb, 0, none⟩ = some (encStr key)) :
    Calls Tryz.prog 65 #[v, .func (.func 66) #[] #[.pointer (some ⟨kb, 0, none⟩)]] w fun e w' => e = .returned (.int .i64 (idxP (fun r => decide (r.key = key)) SR)) ∧ Below w.heap.size w w' := by
  have hkb := World.block_lt_of_cell? w _ hk
  rcases h.form with ⟨rfl, rfl⟩ | ⟨g, cap, rfl, hnc, hcm, hF, hg⟩
  · have hs : SR = [] := List.eq_nil_of_length_eq_zero hn
    subst hs
    go_enter Tryz.func65, Tryz.ntmps65
    go_wp2_with fail
    go_loopw [5, 8] (fun _ i wx => i = .int .i64 0 ∧ wx = w) (fun _ _ _ => 0)
    case atStart => exact ⟨rfl, rfl⟩
    case round =>
      obtain ⟨rfl, rfl⟩ := hrel
      go_wp2_with fail
      go_ret
      exact ⟨rfl, Below.refl _ _⟩
  · have HR := Lib.hid h.row
    have HN := Lib.hid hn
    have hn63 : n ≤ 9223372036854775807 := by simp only [maxLen] at hcm; omega
    have HK := Lib.hid hk
    clear hk h
    go_enter Tryz.func65, Tryz.ntmps65
    go_wp2_with fail
    go_loopw [5, 8] (fun _ i wx => ∃ k : Nat, k ≤ n ∧ i = .int .i64 k ∧ (∀ (j : Nat) r, j < k → SR[j]? = some r → decide (r.key = key) = false) ∧ Below w.heap.size w wx) (fun _ i _ => n - (intOf i).toNat)
    case atStart => exact ⟨0, Nat.zero_le _, rfl, fun j r hj => by omega, Below.refl _ _⟩
    case round =>
      obtain ⟨k, hkn, rfl, hlo, hbl⟩ := hrel
      obtain ⟨wo, rfl⟩ : ∃ wo : World, wo = wr := ⟨_, rfl⟩
      have LO := Lib.hid hlo
      have BL := Lib.hid hbl
      have hz := hbl.size
      clear hlo
      by_cases hlt : k < n
      · have d1 : decide (k < n) = true := by simpa using hlt
        obtain ⟨r, hr⟩ : ∃ r, SR[k]? = some r := ⟨_, List.getElem?_eq_getElem (by rw [HN.out]; exact hlt)⟩
        have k0 : wo.cell? ⟨g, k * 2, none⟩ = some (encStr r.key) := (hbl.cell (p := ⟨g, k * 2, none⟩) hg).trans (HR.out.cell (blobVals_get hr).1)
        have k1 : wo.cell? ⟨g, k * 2 + 1, none⟩ = some (.slice r.A r.n r.c) := (hbl.cell (p := ⟨g, k * 2 + 1, none⟩) hg).trans (HR.out.cell (blobVals_get hr).2)
        have KK := Lib.hid ((hbl.cell (p := ⟨kb, 0, none⟩) hkb).trans HK.out)
        have HRR := Lib.hid hr
        clear hr hbl
        cases hd : decide (r.key = key) with
        | true =>
          have HD := Lib.hid hd
          clear hd
          go_wp2_with (go_at_call 66; refine (waits1_any r.key key r.A r.n r.c kb _ KK.out).mono ?_; rw [HD.out]; rintro e w1 ⟨rfl, hb1⟩; have B1 := Lib.hid (BL.out.trans (hb1.mono hz)); clear hb1)
          go_ret
          exact ⟨ret_i (idxP_at HRR.out HD.out LO.out).symm, B1.out⟩
        | false =>
          have HD := Lib.hid hd
          clear hd
          go_wp2_with (go_at_call 66; refine (waits1_any r.key key r.A r.n r.c kb _ KK.out).mono ?_; rw [HD.out]; rintro e w1 ⟨rfl, hb1⟩; have B1 := Lib.hid (BL.out.trans (hb1.mono hz)); clear hb1)
          go_roundw
          case rel => exact ⟨k + 1, hlt, by go_num, fun j r' hj hr' => by
            by_cases hjk : j = k
            · subst hjk
              rw [HRR.out] at hr'
              cases hr'
              exact HD.out
            · exact LO.out j r' (by omega) hr', B1.out⟩
          case measure => simp [intOf]; omega
      · have d1 : decide (k < n) = false := by simpa using hlt
        have HE := Lib.hid (show idxP (fun r => decide (r.key = key)) SR = -1 from idxP_none fun j y hy => LO.out j y (by have := (List.getElem?_eq_some_iff.1 hy).1; rw [HN.out] at this; omega) hy)
        clear hbl
        go_wp2_with fail
        go_ret
        exact ⟨ret_i HE.out.symm, BL.out⟩
theorem idxP_map {α β : Type} (f : α → β) (p : β → Bool) : ∀ l : List α, idxP p (l.map f) = idxP (fun x => p (f x)) l
  | [] => rfl
  | x :: l => by simp only [List.map_cons, idxP, idxP_map f p l]
theorem cWaits (F : Nat → Prop) (p N : Nat) (C : CV) (key : Str) (w : World) (h : CatAt F w p N C) :
    Calls Tryz.prog 32 #[.pointer (some ⟨p, 0, none⟩), encStr key] w fun e w' => e = .returned (.int .i64 (waitsC C key)) ∧ Below w.heap.size w w' := by
  obtain ⟨sv, tv, SR, ER, be, bb, br, hr⟩ := h
  obtain ⟨w1, hw1⟩ : ∃ w1, w1 = w.alloc (.cells #[encStr key] 9) := ⟨_, rfl⟩
  have hb1 : Below w.heap.size w w1 := by rw [hw1]; exact (Below.refl _ _).alloc (Nat.le_refl _) _
  have hr1 := hr.below hb1
  have hk1 : w1.cell? ⟨w.heap.size, 0, none⟩ = some (encStr key) := by rw [hw1]; exact (Blk.made w _ _).cell 0
  have c0 : w1.cell? ⟨p, 0, none⟩ = some sv := hr1.blk.cell 0
  have hsr : SR.length = C.staged.length := by rw [← hr.stgs, List.length_map]
  have hix := ixBlob F sv _ SR key w.heap.size w1 hr1.stg hsr hk1
  have HX := Lib.hid hix
  have HS := Lib.hid hr.stgs
  have HB1 := Lib.hid hb1
  have hv : (∃ B n c, sv = .slice B n c) := by
    rcases hr.stg.form with ⟨h, _⟩ | ⟨g, cap, h, _⟩
    · exact ⟨_, _, _, h⟩
    · exact ⟨_, _, _, h⟩
  obtain ⟨B, n, c, rfl⟩ := hv
  clear hix hr hr1 hsr hb1 hk1
  go_enter Tryz.func32, Tryz.ntmps32
  go_upto_region 1 with fail
  rw [← hw1]
  clear hw1
  go_wp2_with (go_at_call 65; refine HX.out.mono ?_; rintro e w2 ⟨rfl, hb2⟩)
  go_ret
  refine ⟨ret_i ?_, HB1.out.trans (hb2.mono HB1.out.size)⟩
  unfold waitsC
  rw [← HS.out, idxP_map]
  rfl
end
end Go.Proofs.YtmkccblcmiflfaaGreat

namespace Go.Proofs.YtmkccblcmiflfaaGreat
open Go.RowKit Go.Maps Go.WideMaps

def hasC (C : CV) (k : Str) : Bool := hasL C.entries k || hasL C.staged k
theorem hasL_map {κ β γ : Type} [DecidableEq κ] (f : β → γ) (L : List (κ × β)) (k : κ) : hasL (L.map fun q => (q.1, f q.2)) k = hasL L k := by simp [hasL, List.any_map, Function.comp_def]
theorem hasL_ents {ER : List EntR} {E : List (Str × EntV)} (h : ER.map (fun r => (r.key, r.e)) = E) (k : Str) : hasL (entVals ER) k = hasL E k := by
  subst h
  simp [hasL, entVals, List.any_map, Function.comp_def]
def isEnt (v : Value) : Prop := ∃ k a b s A n c, v = .agg #[encStr k, .int .i64 a, .int .i64 b, encStr s, .slice A n c]
theorem getE_form (ER : List EntR) (k : Str) : isEnt (getL zeroEnt (entVals ER) k) := by
  cases h : hasL (entVals ER) k with
  | false => rw [getL_no _ h]; exact ⟨[], 0, 0, [], none, 0, 0, rfl⟩
  | true =>
    have := getL_mem zeroEnt h
    obtain ⟨r, _, e⟩ := List.mem_map.1 this
    injection e with _ e
    rw [← e]
    exact ⟨_, _, _, _, _, _, _, rfl⟩
section
variable {F : Nat → Prop} {w : World} {p N : Nat} {C : CV} {sv tv : Value} {SR : List BlobR} {ER : List EntR} {be bb br : Nat}
theorem CatR.lookE (h : CatR F w p N C sv tv SR ER be bb br) {k : Str} (hk : k.length ≤ maxLen) :
    (Instr.lookup 63 (.map (some be)) (encStr k) true).run Tryz.prog w = .ok (.tuple #[getL zeroEnt (entVals ER) k, .bool (hasL C.entries k)]) w := by
  have := h.ents.look (t := 63) (e := 43) Tryz.underlying63 (zeroE w) (k := k) hk
  rw [hasL_ents h.entr] at this
  exact this
theorem CatR.lookG (h : CatR F w p N C sv tv SR ER be bb br) {k : Str} (hk : k.length ≤ maxLen) :
    (Instr.lookup 64 (.map (some bb)) (encStr k) true).run Tryz.prog w = .ok (.tuple #[getL (.int .i64 0) (begunVals C.begun) k, .bool (hasL C.begun k)]) w := by
  have := h.begs.look (t := 64) (e := 3) Tryz.underlying64 (zeroI w) (k := k) hk
  rw [show hasL (begunVals C.begun) k = hasL C.begun k from hasL_map _ _ _] at this
  exact this
end
section
set_option maxHeartbeats 1000000
theorem cHas (F : Nat → Prop) (p N : Nat) (C : CV) (key : Str) (w : World) (h : CatAt F w p N C) (hk : key.length ≤ maxLen) :
    Calls Tryz.prog 18 #[.pointer (some ⟨p, 0, none⟩), encStr key] w fun e w' => e = .returned (.bool (hasC C key)) ∧ Below w.heap.size w w' := by
  have H := Lib.hid h
  obtain ⟨sv, tv, SR, ER, be, bb, br, hr⟩ := h
  have c1 : w.cell? ⟨p, 1, none⟩ = some (.map (some be)) := hr.blk.cell 1
  have hlk := hr.lookE hk
  obtain ⟨k', a, b, s, A, n, c, hv⟩ := getE_form ER key
  rw [hv] at hlk
  clear hv hr
  cases hE : hasL C.entries key with
  | true =>
    rw [hE] at hlk
    have HE := Lib.hid hE
    clear hE
    go_enter Tryz.func18, Tryz.ntmps18
    go_wp2_with fail
    go_ret
    exact ⟨ret_b (by unfold hasC; rw [HE.out]; rfl), (Below.refl _ w).alloc (Nat.le_refl _) _⟩
  | false =>
    rw [hE] at hlk
    have HE := Lib.hid hE
    have hi := idxP_ge (isKey key) C.staged
    cases hS : hasL C.staged key with
    | true =>
      have hw0 : 0 ≤ waitsC C key := by
        rcases Int.lt_or_le (waitsC C key) 0 with h | h
        · rw [(waitsC_neg C key).1 h] at hS; cases hS
        · exact h
      have d1 : decide (0 ≤ waitsC C key) = true := by simpa using hw0
      have HS := Lib.hid hS
      clear hE hS hw0 hi
      go_enter Tryz.func18, Tryz.ntmps18
      go_wp2_with (go_at_call 32; refine (cWaits F p N C key _ (by exact H.out.below ((Below.refl _ _).alloc (Nat.le_refl _) _))).mono ?_; rintro e w1 ⟨rfl, hb1⟩; have B1 := Lib.hid (((Below.refl _ w).alloc (Nat.le_refl _) _).trans (hb1.mono (by simp))); clear hb1)
      go_ret
      exact ⟨ret_b (by unfold hasC; rw [HS.out, Bool.or_true]), B1.out⟩
    | false =>
      have hw0 : waitsC C key < 0 := (waitsC_neg C key).2 hS
      have d1 : decide (0 ≤ waitsC C key) = false := by simpa using hw0
      have HS := Lib.hid hS
      clear hE hS hw0 hi
      go_enter Tryz.func18, Tryz.ntmps18
      go_wp2_with (go_at_call 32; refine (cWaits F p N C key _ (by exact H.out.below ((Below.refl _ _).alloc (Nat.le_refl _) _))).mono ?_; rintro e w1 ⟨rfl, hb1⟩; have B1 := Lib.hid (((Below.refl _ w).alloc (Nat.le_refl _) _).trans (hb1.mono (by simp))); clear hb1)
      go_ret
      exact ⟨ret_b (by unfold hasC; rw [HS.out, HE.out]; rfl), B1.out⟩
def laterB (C : CV) (gen : Int) : Bool := decide (C.gen < gen ∧ gen ≤ 1099511627776)
theorem cLater (F : Nat → Prop) (p N : Nat) (C : CV) (gen : Int) (w : World) (h : CatAt F w p N C) :
    Calls Tryz.prog 73 #[.pointer (some ⟨p, 0, none⟩), .int .i64 gen] w fun e w' => e = .returned (.bool (laterB C gen)) ∧ w = w' := by
  obtain ⟨sv, tv, SR, ER, be, bb, br, hr⟩ := h
  have c5 : w.cell? ⟨p, 5, none⟩ = some (.int .i64 C.gen) := hr.blk.cell 5
  clear hr
  by_cases h1 : C.gen < gen
  · have d1 : decide (C.gen < gen) = true := by simpa using h1
    by_cases h2 : gen ≤ 1099511627776
    · have d2 : decide (gen ≤ 1099511627776) = true := by simpa using h2
      have H := Lib.hid (And.intro h1 h2)
      clear h1 h2
      go_enter Tryz.func73, Tryz.ntmps73
      go_wp2_with fail
      go_ret
      exact ⟨ret_b (show true = laterB C gen from (decide_eq_true H.out).symm), rfl⟩
    · have d2 : decide (gen ≤ 1099511627776) = false := by simpa using h2
      have H := Lib.hid h2
      clear h1 h2
      go_enter Tryz.func73, Tryz.ntmps73
      go_wp2_with fail
      go_ret
      exact ⟨ret_b (show false = laterB C gen from (decide_eq_false (fun h => by have := H.out; omega)).symm), rfl⟩
  · have d1 : decide (C.gen < gen) = false := by simpa using h1
    have H := Lib.hid h1
    clear h1
    go_enter Tryz.func73, Tryz.ntmps73
    go_wp2_with fail
    go_ret
    exact ⟨ret_b (show false = laterB C gen from (decide_eq_false (fun h => by have := H.out; omega)).symm), rfl⟩
def groupsI (n : Int) : Int := max 1 ((n + 127) / 128)
theorem cGroups (n : Int) (w : World) (h0 : 0 ≤ n) (h1 : n ≤ 512) :
    Calls Tryz.prog 70 #[.int .i64 n] w fun e w' => e = .returned (.int .i64 (groupsI n)) ∧ w = w' := by
  go_enter Tryz.func70, Tryz.ntmps70
  go_wp2_with fail
  all_goals
    go_ret
    refine ⟨ret_i ?_, rfl⟩
    unfold groupsI
    omega
theorem cGen (F : Nat → Prop) (p N : Nat) (C : CV) (w : World) (h : CatAt F w p N C) :
    Calls Tryz.prog 19 #[.pointer (some ⟨p, 0, none⟩)] w fun e w' => e = .returned (.int .i64 C.gen) ∧ w = w' := by
  obtain ⟨sv, tv, SR, ER, be, bb, br, hr⟩ := h
  have c5 : w.cell? ⟨p, 5, none⟩ = some (.int .i64 C.gen) := hr.blk.cell 5
  clear hr
  go_enter Tryz.func19, Tryz.ntmps19
  go_wp2_with fail
  go_ret
  exact ⟨rfl, rfl⟩
end
end Go.Proofs.YtmkccblcmiflfaaGreat

namespace Go.Proofs.YtmkccblcmiflfaaGreat
open Go.RowKit Go.Maps Go.WideMaps

theorem blob_info : (Tryz.prog.info? 70).map (fun i => (i.zero, i.size, i.bytes)) = some (some (.agg #[.string ⟨#[]⟩, .slice none 0 0]), 2, 40) := by kernel_rfl
theorem note_info : (Tryz.prog.info? 32).map (fun i => (i.zero, i.size, i.bytes)) = some (some (.agg #[.int .i64 0, .string ⟨#[]⟩, .int .i64 0, .int .i64 0, .slice none 0 0, .string ⟨#[]⟩, .int .i64 0, .slice none 0 0]), 8, 112) := by kernel_rfl
theorem place_info : (Tryz.prog.info? 95).map (fun i => (i.zero, i.size, i.bytes)) = some (some (.agg #[.int .i64 0, .int .i64 0]), 2, 16) := by kernel_rfl
def putC (C : CV) (v : NoteV) : Int × CV :=
  if v.key.length < 1 ∨ 16 < v.key.length ∨ 512 < v.data.length then (12, C)
  else if hasC C v.key then (4, C) else (0, { C with staged := C.staged ++ [(v.key, v.data)] })
theorem CatAt.up {F : Nat → Prop} {w : World} {p N M : Nat} {C : CV} (h : CatAt F w p N C) (hM : N ≤ M) : CatAt F w p M C := by
  obtain ⟨sv, tv, SR, ER, be, bb, br, h⟩ := h
  exact ⟨sv, tv, SR, ER, be, bb, br, { h with ents := h.ents.mono hM, begs := h.begs.mono hM, rets := h.rets.mono hM, wf := { h.wf with staged := Nat.le_trans h.wf.staged hM, tombs := Nat.le_trans h.wf.tombs hM } }⟩
theorem OwnRow.chg {F S : Nat → Prop} {w w' : World} {t : TypeId} {size n : Nat} {v : Value} {xs : List Value} (h : OwnRow F w t size v n xs) (hc : Chg S w w') (hd : ∀ g, v.ownBlock = some g → ¬ S g) : OwnRow F w' t size v n xs :=
  ⟨own_of_eq h.1 (fun g hg => hc.block g (h.1.lt g hg).2 (hd g hg)), h.2⟩
section
variable {F S : Nat → Prop} {w w' : World} {p N : Nat} {C : CV} {sv tv : Value} {SR : List BlobR} {ER : List EntR} {be bb br : Nat}
/-- What a method of a catalog may turn of its own. -/
def CatTurns (p : Nat) (sv tv : Value) (be bb br : Nat) (k : Nat) : Prop := k = p ∨ sv.ownBlock = some k ∨ tv.ownBlock = some k ∨ k = be ∨ k = bb ∨ k = br
theorem CatR.other (h : CatR F w p N C sv tv SR ER be bb br) {g : Nat} {t : TypeId} {cs : Array Value} (hg : Blk w g t cs) (h1 : t ≠ 68) (h2 : t ≠ 70) (h3 : t ≠ 32) : ¬ CatTurns p sv tv be bb br g := by
  rintro (e | e | e | e | e | e)
  · exact blk_ne hg h.blk h1 e
  · obtain ⟨cs', hb⟩ := own_blk h.stg.1 e
    exact blk_ne hg hb h2 rfl
  · obtain ⟨cs', hb⟩ := own_blk h.tmb.1 e
    exact blk_ne hg hb h3 rfl
  · exact blk_apart hg h.ents e
  · exact blk_apart hg h.begs e
  · exact blk_apart hg h.rets e
theorem CatR.rows (h : CatR F w p N C sv tv SR ER be bb br) (hc : Chg S w w') (hS : ∀ k, S k → CatTurns p sv tv be bb br k) : (∀ r ∈ SR, BlobOk F w' r) ∧ (∀ r ∈ ER, EntOk F w' r) := by
  refine ⟨fun r hr => (h.blobs r hr).chg hc fun g hg hs => ?_, fun r hr => (h.entb r hr).chg hc fun g hg hs => ?_⟩
  · obtain ⟨cs, hb⟩ := own_blk (h.blobs r hr).1 hg
    exact h.other hb (by decide) (by decide) (by decide) (hS g hs)
  · obtain ⟨cs, hb⟩ := own_blk (h.entb r hr).1 hg
    exact h.other hb (by decide) (by decide) (by decide) (hS g hs)
theorem CatR.stg_ne (h : CatR F w p N C sv tv SR ER be bb br) {g : Nat} (hg : sv.ownBlock = some g) : g ≠ p ∧ tv.ownBlock ≠ some g ∧ g ≠ be ∧ g ≠ bb ∧ g ≠ br := by
  obtain ⟨cs, hb⟩ := own_blk h.stg.1 hg
  refine ⟨blk_ne hb h.blk (by decide), fun e => ?_, blk_apart hb h.ents, blk_apart hb h.begs, blk_apart hb h.rets⟩
  obtain ⟨cs', hb'⟩ := own_blk h.tmb.1 e
  exact blk_ne hb hb' (by decide) rfl
theorem CatR.tmb_ne (h : CatR F w p N C sv tv SR ER be bb br) {g : Nat} (hg : tv.ownBlock = some g) : g ≠ p ∧ sv.ownBlock ≠ some g ∧ g ≠ be ∧ g ≠ bb ∧ g ≠ br := by
  obtain ⟨cs, hb⟩ := own_blk h.tmb.1 hg
  refine ⟨blk_ne hb h.blk (by decide), fun e => (h.stg_ne e).2.1 hg, blk_apart hb h.ents, blk_apart hb h.begs, blk_apart hb h.rets⟩
theorem CatR.map_ne (h : CatR F w p N C sv tv SR ER be bb br) : p ≠ be ∧ p ≠ bb ∧ p ≠ br := ⟨blk_apart h.blk h.ents, blk_apart h.blk h.begs, blk_apart h.blk h.rets⟩
def Wide (F : Nat → Prop) (w : World) (k : Nat) : Prop := F k ∨ w.heap.size ≤ k
theorem OwnRow.wide {F : Nat → Prop} {w0 w : World} {t : TypeId} {size n : Nat} {v : Value} {xs : List Value} (h : OwnRow F w t size v n xs) : OwnRow (Wide F w0) w t size v n xs := ⟨h.1, fun g hg => .inl (h.2 g hg)⟩
/-- What waits has turned. -/
theorem CatR.setStaged (h : CatR F w p N C sv tv SR ER be bb br) {w0 : World} {M : Nat} {sv' : Value} {SR' : List BlobR} {st : List (Str × Str)} (hM : N ≤ M)
    (hc : Chg (fun k => k = p ∨ sv.ownBlock = some k) w w') (hp : Blk w' p 68 #[sv', .map (some be), .map (some bb), tv, .map (some br), .int .i64 C.gen])
    (ho : OwnRow (Wide F w0) w' 70 2 sv' st.length (blobVals SR')) (hst : SR'.map (fun r => (r.key, r.data)) = st) (hbl : ∀ r ∈ SR', (r ∈ SR) ∨ BlobOk (Wide F w0) w' r)
    (hwf : CWf M { C with staged := st }) : CatR (Wide F w0) w' p M { C with staged := st } sv' tv SR' ER be bb br := by
  have hr := h.rows hc (fun k hk => hk.elim .inl (fun e => .inr (.inl e)))
  have hm := h.map_ne
  have hs := fun g (hg : sv.ownBlock = some g) => h.stg_ne hg
  refine ⟨hp, .inl h.fp, ho, hst, fun r hr' => (hbl r hr').elim (fun h1 => (hr.1 r h1).wide) id, (h.ents.of_eq (hc.block be h.ents.lt (fun e => e.elim (fun e => hm.1 e.symm) (fun e => (hs _ e).2.2.1 rfl)))).mono hM, .inl h.fe, h.entr, fun r hr' => (hr.2 r hr').wide,
    (h.begs.of_eq (hc.block bb h.begs.lt (fun e => e.elim (fun e => hm.2.1 e.symm) (fun e => (hs _ e).2.2.2.1 rfl)))).mono hM, .inl h.fb, (h.tmb.chg hc (fun g hg e => e.elim (h.tmb_ne hg).1 (h.tmb_ne hg).2.1)).wide,
    (h.rets.of_eq (hc.block br h.rets.lt (fun e => e.elim (fun e => hm.2.2 e.symm) (fun e => (hs _ e).2.2.2.2 rfl)))).mono hM, .inl h.fr, h.neq, hwf⟩
end
def noteCells (v : NoteV) (D : Option Addr) (dn dc : Nat) (Q : Option Addr) (qn qc : Nat) : Array Value := #[.int .i64 v.kind, encStr v.key, .int .i64 v.gen, .int .i64 v.cart, .slice D dn dc, encStr v.sum, .int .i64 v.size, .slice Q qn qc]
theorem enc_size (l : List UInt8) : (⟨l.toArray⟩ : ByteArray).size = l.length := by simp [ByteArray.size]
/-- What a call on a catalog leaves. -/
def CatPost (F : Nat → Prop) (p N : Nat) (r : Int × CV) (w : World) (e : Ending) (w' : World) : Prop := e = .returned (.int .i64 r.1) ∧ ∃ F', CatAt F' w' p N r.2 ∧ Took F F' w w'
theorem CatPost.same {F : Nat → Prop} {p N M : Nat} {C : CV} {i : Int} {w w' : World} (h : CatAt F w p N C) (hM : N ≤ M) (hb : Below w.heap.size w w') : CatPost F p M (i, C) w (.returned (.int .i64 i)) w' :=
  ⟨rfl, (h.up hM).same hb⟩
theorem hasC_no {C : CV} {k : Str} (h : hasC C k = false) : hasL C.entries k = false ∧ hasL C.staged k = false := by
  unfold hasC at h
  rw [Bool.or_eq_false_iff] at h
  exact h
theorem blobVals_snoc (SR : List BlobR) (r : BlobR) : blobVals (SR ++ [r]) = blobVals SR ++ [encStr r.key, .slice r.A r.n r.c] := by simp [blobVals]
theorem put_wf {N : Nat} {C : CV} {k d : Str} (h : CWf N C) (hh : hasC C k = false) (h1 : ¬ k.length < 1) (h2 : ¬ 16 < k.length) (h3 : d.length ≤ 512) : CWf (N + 1) { C with staged := C.staged ++ [(k, d)] } := by
  obtain ⟨e1, e2⟩ := hasC_no hh
  refine { h with
    staged := by simp only [List.length_append, List.length_cons, List.length_nil]; have := h.staged; omega
    tombs := Nat.le_succ_of_le h.tombs
    keys := fun q hq => ?_
    nds := ?_
    apart := fun q hq => ?_ }
  · rcases List.mem_append.1 hq with hq | hq
    · exact h.keys q hq
    · have e : q = (k, d) := by simpa using hq
      subst e
      exact ⟨by show 1 ≤ k.length; omega, by show k.length ≤ 16; omega, h3⟩
  · rw [List.map_append, List.nodup_append]
    refine ⟨h.nds, by simp, fun a ha b hb e => ?_⟩
    have hb : b = k := by simpa using hb
    subst hb
    subst e
    rw [hasL_mem.2 ha] at e2
    cases e2
  · rcases List.mem_append.1 hq with hq | hq
    · exact h.apart q hq
    · have e : q = (k, d) := by simpa using hq
      subst e
      exact e1
theorem put_close {F : Nat → Prop} {w w3 w4 : World} {p N B0n c0 b2 : Nat} {C : CV} {B0 B3 : Option Addr} {tv : Value} {SR : List BlobR} {ER : List EntR} {be bb br dn c3 g4 cap4 : Nat} {k d : Str} (h : CatR F w3 p N C (.slice B0 B0n c0) tv SR ER be bb br) (hb : Below w.heap.size w w3)
    (hby : Bys w3 b2 B3 dn c3 d) (hb2 : w.heap.size ≤ b2) (hown : w4.ownsRow 0 70 2 (.slice (some ⟨g4, 0, none⟩) (C.staged.length + 1) cap4) (C.staged.length + 1) (blobVals SR ++ [encStr k, .slice B3 dn c3]))
    (hg : (w3.alloc (.cells #[encStr k, .slice B3 dn c3] 70)).grownBy w4 (Value.slice B0 B0n c0).ownBlock) (hat : (Value.slice B0 B0n c0).ownBlock = some g4 ∨ g4 = (w3.alloc (.cells #[encStr k, .slice B3 dn c3] 70)).heap.size)
    (hh : hasC C k = false) (h1 : ¬ k.length < 1) (h2 : ¬ 16 < k.length) (h3 : d.length ≤ 512) :
    CatPost F p (N + 1) (0, { C with staged := C.staged ++ [(k, d)] }) w (.returned (.int .i64 0)) (w4.setCell ⟨p, 0, none⟩ (.slice (some ⟨g4, 0, none⟩) (C.staged.length + 1) cap4)) := by
  have hz3 := hb.size
  have hpz := h.blk.size
  have hgp : g4 ≠ p := by
    rcases hat with e | e
    · exact (h.stg_ne e).1
    · rw [World.size_alloc] at e; omega
  have hc3 : Chg (fun k => k = p ∨ (Value.slice B0 B0n c0).ownBlock = some k) w3 w4 := ((Chg.refl _ w3).alloc _).grown hg (fun g e => .inl (.inr e))
  have hc : Chg (fun k => k = p ∨ (Value.slice B0 B0n c0).ownBlock = some k) w3 (w4.setCell ⟨p, 0, none⟩ (.slice (some ⟨g4, 0, none⟩) (C.staged.length + 1) cap4)) := hc3.store (p := ⟨p, 0, none⟩) (.inl (.inl rfl)) _
  have hp4 : Blk w4 p 68 _ := (h.blk.alloc (.cells #[encStr k, .slice B3 dn c3] 70)).grown hg (fun e => (h.stg_ne e).1 rfl)
  have hr := h.setStaged (w0 := w) (M := N + 1) (SR' := SR ++ [⟨k, B3, dn, c3, d⟩]) (st := C.staged ++ [(k, d)]) (Nat.le_succ _) hc (hp4.store 0 _)
    ⟨by
      have e : blobVals (SR ++ [⟨k, B3, dn, c3, d⟩]) = blobVals SR ++ [encStr k, .slice B3 dn c3] := blobVals_snoc _ _
      rw [e, show (C.staged ++ [(k, d)]).length = C.staged.length + 1 by simp]
      exact own_of_eq hown (fun q hq => Below.heap_setCell w4 _ _ q (fun e => hgp ((Option.some.inj hq).trans e))), fun q hq => by
      have e : g4 = q := Option.some.inj hq
      subst e
      rcases hat with e | e
      · exact .inl (h.stg.2 _ e)
      · rw [World.size_alloc] at e; exact .inr (by omega)⟩ (by rw [List.map_append, h.stgs]; rfl) (fun r hr => by
      rcases List.mem_append.1 hr with hr | hr
      · exact .inl hr
      · have e : r = ⟨k, B3, dn, c3, d⟩ := by simpa using hr
        subst e
        refine .inr ⟨own_of_eq (hby.mono (Nat.zero_le _)) (fun q hq => ?_), fun q hq => .inr (Nat.le_trans hb2 (hby.lt q hq).1)⟩
        obtain ⟨cs, hcs⟩ := own_blk hby hq
        exact hc.block q (hby.lt q hq).2 (fun e => e.elim (fun e => blk_ne hcs h.blk (by decide) e) (fun e => by
          obtain ⟨cs', hcs'⟩ := own_blk h.stg.1 e
          exact blk_ne hcs hcs' (by decide) rfl))) (put_wf h.wf hh h1 h2 h3)
  refine ⟨rfl, Took.of (CatAt.owning p (N + 1) _) ⟨_, _, _, _, _, _, _, hr⟩ ((Chg.of_below F hb).trans' hc (fun i hi e => ?_))⟩
  rcases e with e | e
  · rw [e]; exact h.fp
  · exact h.stg.2 i e
section
set_option maxHeartbeats 4000000
set_option maxRecDepth 8000
theorem cPut (F : Nat → Prop) (p N : Nat) (C : CV) (v : NoteV) (D : Option Addr) (dn dc : Nat) (Q : Option Addr) (qn qc : Nat) (w : World) (h : CatAt F w p N C) (hN : N ≤ 100000) (hin : NoteIn w v D dn dc Q qn qc) :
    Calls Tryz.prog 36 #[.pointer (some ⟨p, 0, none⟩), noteAgg v D dn dc Q qn qc] w (CatPost F p (N + 1) (putC C v) w) := by
  have H := Lib.hid h
  have HI := Lib.hid hin
  have hks := enc_size v.key
  have hkl : v.key.length ≤ maxLen := hin.key
  have hdl : v.data.length = dn := hin.data.1
  have hp63 : v.key.length ≤ 9223372036854775807 := by simp only [maxLen] at hkl; omega
  have hd63 : dn ≤ 9223372036854775807 := by have := hin.dform.1; have := hin.dform.2.1; simp only [maxLen] at this; omega
  obtain ⟨w1, hw1⟩ : ∃ w1, w1 = w.alloc (.cells (noteCells v D dn dc Q qn qc) 32) := ⟨_, rfl⟩
  have hb1 : Below w.heap.size w w1 := by rw [hw1]; exact (Below.refl _ _).alloc (Nat.le_refl _) _
  have hB1 : Blk w1 w.heap.size 32 (noteCells v D dn dc Q qn qc) := by rw [hw1]; exact Blk.made w _ _
  have W1 := Lib.hid hw1
  have HB1 := Lib.hid hb1
  have BN1 := Lib.hid hB1
  have k1 : w1.cell? ⟨w.heap.size, 1, none⟩ = some (encStr v.key) := hB1.cell 1
  have k4 : w1.cell? ⟨w.heap.size, 4, none⟩ = some (.slice D dn dc) := hB1.cell 4
  have H1 := Lib.hid (h.below hb1)
  clear hin h hb1 hB1 hw1
  unfold noteAgg
  go_enter Tryz.func36, Tryz.ntmps36
  go_upto_region 1 with fail
  rw [show w.alloc (.cells #[.int .i64 v.kind, .string ⟨v.key.toArray⟩, .int .i64 v.gen, .int .i64 v.cart, .slice D dn dc, .string ⟨v.sum.toArray⟩, .int .i64 v.size, .slice Q qn qc] 32) = w1 from W1.out.symm]
  by_cases g1 : v.key.length < 1
  · have d1 : decide ((v.key.length : Int) < 1) = true := by simp; omega
    have HE := Lib.hid (show putC C v = (12, C) from if_pos (.inl g1))
    go_wp2_with fail
    go_ret
    rw [HE.out]
    exact CatPost.same H.out (Nat.le_succ _) HB1.out
  have d1 : decide ((v.key.length : Int) < 1) = false := by simp; omega
  by_cases g2 : 16 < v.key.length
  · have d2 : decide ((16 : Int) < v.key.length) = true := by simp; omega
    have HE := Lib.hid (show putC C v = (12, C) from if_pos (.inr (.inl g2)))
    go_wp2_with fail
    go_ret
    rw [HE.out]
    exact CatPost.same H.out (Nat.le_succ _) HB1.out
  have d2 : decide ((16 : Int) < v.key.length) = false := by simp; omega
  by_cases g3 : 512 < dn
  · have d3 : decide ((512 : Int) < dn) = true := by simp; omega
    have HE := Lib.hid (show putC C v = (12, C) from if_pos (.inr (.inr (by omega))))
    go_wp2_with fail
    go_ret
    rw [HE.out]
    exact CatPost.same H.out (Nat.le_succ _) HB1.out
  have d3 : decide ((512 : Int) < dn) = false := by simp; omega
  have hne : ¬ (v.key.length < 1 ∨ 16 < v.key.length ∨ 512 < v.data.length) := by omega
  cases hh : hasC C v.key with
  | true =>
    have HE := Lib.hid (show putC C v = (4, C) by unfold putC; rw [if_neg hne, if_pos hh])
    have HH := Lib.hid hh
    clear hh hne
    go_wp2_with (go_at_call 18; refine (cHas F p N C v.key _ H1.out hkl).mono ?_; rw [HH.out]; rintro e w2 ⟨rfl, hb2⟩; have B2 := Lib.hid (HB1.out.trans (hb2.mono HB1.out.size)); clear hb2)
    go_ret
    rw [HE.out]
    exact CatPost.same H.out (Nat.le_succ _) B2.out
  | false =>
    have HE := Lib.hid (show putC C v = (0, { C with staged := C.staged ++ [(v.key, v.data)] }) by unfold putC; rw [if_neg hne, hh]; rfl)
    have HH := Lib.hid hh
    clear hh hne
    go_wp2_with (go_at_call 18; refine (cHas F p N C v.key _ H1.out hkl).mono ?_; rw [HH.out]; rintro e w2 ⟨rfl, hb2⟩; have B2 := Lib.hid hb2; clear hb2)
    obtain ⟨sv, tv, SR, ER, be, bb, br, h2⟩ := H1.out.below B2.out
    have R2 := Lib.hid h2
    have hsr : SR.length = C.staged.length := by rw [← h2.stgs, List.length_map]
    obtain ⟨B0, n0, c0, hsv⟩ : ∃ B n c, sv = .slice B n c := by
      rcases h2.stg.form with ⟨h, _⟩ | ⟨g, cap, h, _⟩
      · exact ⟨_, _, _, h⟩
      · exact ⟨_, _, _, h⟩
    subst hsv
    have kp : w2.cell? ⟨p, 0, none⟩ = some (.slice B0 n0 c0) := h2.blk.cell 0
    have hpz : p < w2.heap.size := h2.blk.size
    have hz12 := B2.out.size
    have hbn : w.heap.size < w1.heap.size := BN1.out.size
    have k1' : w2.cell? ⟨w.heap.size, 1, none⟩ = some (encStr v.key) := (B2.out.cell (p := ⟨w.heap.size, 1, none⟩) hbn).trans k1
    have k4' : w2.cell? ⟨w.heap.size, 4, none⟩ = some (.slice D dn dc) := (B2.out.cell (p := ⟨w.heap.size, 4, none⟩) hbn).trans k4
    have hst : C.staged.length ≤ 100000 := by have := h2.wf.staged; omega
    have BD := Lib.hid ((HI.out.data.below HB1.out).below B2.out)
    have FD := Lib.hid HI.out.dform
    obtain ⟨i0, hi, hz0, hz1, hz2⟩ := info_parts blob_info
    clear h2 k1 k4
    go_region_law (first
      | (refine step_append_form _ rfl (.tmp 31) (.tmp 38) 66 rfl 0 70 i0 _ 2 40 Tryz.underlying66 hi hz0 hz1 hz2 rfl (by omega) _ C.staged.length (blobVals SR) rfl (by exact own_of_eq R3.out.stg.1 (fun q hq => Below.heap_alloc _ _ q (R3.out.stg.1.lt q hq).2)) (some ⟨w3.heap.size, 0, none⟩) 1 1 [encStr v.key, .slice B3 dn c3] rfl rfl (fun e => by cases e) (by exact src_new _ _ _ _) (by intro u hu; simp only [List.mem_cons, List.not_mem_nil, or_false] at hu; rcases hu with rfl | rfl <;> rfl) (by omega) (by simp only [maxLen]; omega) (by omega) (Nat.zero_le _) ?_
         intro g4 cap4 w4 hown4 hgr4 hat4 hlt4
         have BK4 := Lib.hid ((R3.out.blk.alloc (.cells #[encStr v.key, .slice B3 dn c3] 70)).grown hgr4 (fun e => (R3.out.stg_ne e).1 rfl))
         have kp4 : w4.cell? ⟨p, 0, none⟩ = some (.slice B0 n0 c0) := BK4.out.cell 0
         have fp4 : w4.frozen? ⟨p, 0, none⟩ = false := BK4.out.free 0
         have HO4 := Lib.hid hown4
         have HG4 := Lib.hid hgr4
         clear hown4 hgr4)
      | (go_simp; go_at_call 30
         refine (bclone D dn dc v.data _ FD.out (by omega) (by exact BD.out)).mono ?_
         rintro e w3 ⟨B3, c3, rfl, hb3, hbe3⟩
         have BY3 := Lib.hid (show Bys w3 w2.heap.size B3 dn c3 v.data from hb3)
         have BE3 := Lib.hid (show Below w2.heap.size w2 w3 from below_of_drew hbe3)
         have R3 := Lib.hid (R2.out.below BE3.out)
         have kp3 : w3.cell? ⟨p, 0, none⟩ = some (.slice B0 n0 c0) := (BE3.out.cell (p := ⟨p, 0, none⟩) hpz).trans kp
         have k13 : w3.cell? ⟨w.heap.size, 1, none⟩ = some (encStr v.key) := (BE3.out.cell (p := ⟨w.heap.size, 1, none⟩) (by show w.heap.size < w2.heap.size; omega)).trans k1'
         have k43 : w3.cell? ⟨w.heap.size, 4, none⟩ = some (.slice D dn dc) := (BE3.out.cell (p := ⟨w.heap.size, 4, none⟩) (by show w.heap.size < w2.heap.size; omega)).trans k4'
         have hz3 := BE3.out.size
         have hp3 : p < w3.heap.size := by omega
         have hn3 : w.heap.size < w3.heap.size := by omega
         clear hb3 hbe3))
    all_goals
      go_wp2_with fail
      go_ret
      rw [HE.out]
      exact put_close R3.out ((HB1.out.trans (B2.out.mono HB1.out.size)).trans (BE3.out.mono (by omega))) BY3.out (by omega) HO4.out HG4.out hat4 HH.out g1 g2 (by omega)
end
end Go.Proofs.YtmkccblcmiflfaaGreat

namespace Go.Proofs.YtmkccblcmiflfaaGreat
open Go.RowKit Go.Maps Go.WideMaps

section
variable {F : Nat → Prop} {w w' w0 : World} {p N M : Nat} {C C' : CV} {sv tv sv' tv' : Value} {SR SR' : List BlobR} {ER ER' : List EntR} {be bb br : Nat}
theorem CatR.build (h : CatR F w p N C sv tv SR ER be bb br) (hc : Chg (CatTurns p sv tv be bb br) w w')
    (hp : Blk w' p 68 #[sv', .map (some be), .map (some bb), tv', .map (some br), .int .i64 C'.gen])
    (ho : OwnRow (Wide F w0) w' 70 2 sv' C'.staged.length (blobVals SR')) (hst : SR'.map (fun r => (r.key, r.data)) = C'.staged) (hbl : ∀ r ∈ SR', r ∈ SR ∨ BlobOk (Wide F w0) w' r)
    (he : MapAt skey zeroEnt w' be M (entVals ER')) (her : ER'.map (fun r => (r.key, r.e)) = C'.entries) (heb : ∀ r ∈ ER', r ∈ ER ∨ EntOk (Wide F w0) w' r)
    (hb : MapAt skey (.int .i64 0) w' bb M (begunVals C'.begun)) (ht : OwnRow (Wide F w0) w' 32 8 tv' C'.tombs.length (tombVals C'.tombs))
    (hr : MapAt ikey (.agg #[]) w' br M (retVals C'.retired)) (hwf : CWf M C') : CatR (Wide F w0) w' p M C' sv' tv' SR' ER' be bb br := by
  have hr' := h.rows hc (fun _ hk => hk)
  exact ⟨hp, .inl h.fp, ho, hst, fun r hx => (hbl r hx).elim (fun h1 => (hr'.1 r h1).wide) id, he, .inl h.fe, her, fun r hx => (heb r hx).elim (fun h1 => (hr'.2 r h1).wide) id, hb, .inl h.fb, ht, hr, .inl h.fr, h.neq, hwf⟩
theorem CatR.turns_in (h : CatR F w p N C sv tv SR ER be bb br) {k : Nat} (hk : CatTurns p sv tv be bb br k) : F k := by
  rcases hk with e | e | e | e | e | e
  · rw [e]; exact h.fp
  · exact h.stg.2 k e
  · exact h.tmb.2 k e
  · rw [e]; exact h.fe
  · rw [e]; exact h.fb
  · rw [e]; exact h.fr
theorem CatR.post (h : CatR F w p N C sv tv SR ER be bb br) (hb : Below w0.heap.size w0 w) (hc : Chg (CatTurns p sv tv be bb br) w w') (h' : CatR (Wide F w0) w' p M C' sv' tv' SR' ER' be bb br) (i : Int) :
    CatPost F p M (i, C') w0 (.returned (.int .i64 i)) w' :=
  ⟨rfl, Took.of (CatAt.owning p M C') ⟨_, _, _, _, _, _, _, h'⟩ ((Chg.of_below F hb).trans' hc fun _ _ hk => h.turns_in hk)⟩
theorem CatR.stg_same (h : CatR F w p N C sv tv SR ER be bb br) {S : Nat → Prop} (hc : Chg S w w') (hS : ∀ g, sv.ownBlock = some g → ¬ S g) : OwnRow (Wide F w0) w' 70 2 sv C.staged.length (blobVals SR) := (h.stg.chg hc hS).wide
theorem CatR.tmb_same (h : CatR F w p N C sv tv SR ER be bb br) {S : Nat → Prop} (hc : Chg S w w') (hS : ∀ g, tv.ownBlock = some g → ¬ S g) : OwnRow (Wide F w0) w' 32 8 tv C.tombs.length (tombVals C.tombs) := (h.tmb.chg hc hS).wide
end
theorem putL_map {β : Type} (f : β → Value) (L : List (Str × β)) (k : Str) (v : β) : putL (L.map fun q => (q.1, f q.2)) k (f v) = (putL L k v).map fun q => (q.1, f q.2) := by
  unfold putL delL
  rw [List.map_append, List.filter_map]
  rfl
def beginC (C : CV) (v : NoteV) : Int × CV :=
  if laterB C v.gen = false then (12, C)
  else if v.key ≠ [] ∧ hasC C v.key = false then (5, C)
  else (0, { C with gen := v.gen, begun := if v.key = [] then C.begun else putL C.begun v.key v.gen })
theorem hasC_len {N : Nat} {C : CV} {k : Str} (h : CWf N C) (hh : hasC C k = true) : 1 ≤ k.length ∧ k.length ≤ 16 := by
  unfold hasC at hh
  rw [Bool.or_eq_true, hasL_mem, hasL_mem, List.mem_map, List.mem_map] at hh
  rcases hh with ⟨q, hq, rfl⟩ | ⟨q, hq, rfl⟩
  · have := h.ents q hq; exact ⟨this.1, this.2.1⟩
  · have := h.keys q hq; exact ⟨this.1, this.2.1⟩
theorem gen_wf {N : Nat} {C : CV} {g : Int} (h : CWf N C) (hg : laterB C g = true) : CWf N { C with gen := g } ∧ C.gen < g ∧ g ≤ 1099511627776 := by
  unfold laterB at hg
  have hg := of_decide_eq_true hg
  have h0 := h.gen
  exact ⟨{ h with
    ents := fun q hq => by have := h.ents q hq; exact ⟨this.1, this.2.1, this.2.2.1, by show q.2.gen ≤ g; omega, this.2.2.2.2⟩
    marks := fun q hq => by have := h.marks q hq; exact ⟨this.1, this.2.1, this.2.2.1, by show q.2 ≤ g; omega⟩
    begun := fun q hq => by have := h.begun q hq; exact ⟨this.1, this.2.1, this.2.2.1, by show q.2 ≤ g; omega⟩
    gen := ⟨by show 0 ≤ g; omega, by show g ≤ _; omega⟩ }, hg.1, hg.2⟩
theorem begin_wf {N : Nat} {C : CV} {g : Int} {k : Str} (h : CWf N C) (hg : laterB C g = true) (hk : 1 ≤ k.length ∧ k.length ≤ 16) : CWf N { C with gen := g, begun := putL C.begun k g } := by
  obtain ⟨h1, h2, h3⟩ := gen_wf h hg
  have h0 := h.gen
  refine { h1 with
    begun := fun q hq => ?_
    gens := ?_ }
  · rcases List.mem_append.1 hq with hq | hq
    · exact h1.begun q (List.mem_filter.1 hq).1
    · have e : q = (k, g) := by simpa using hq
      subst e
      exact ⟨hk.1, hk.2, by show 1 ≤ g; omega, Int.le_refl _⟩
  · show (putL C.begun k g).Pairwise _
    unfold putL
    rw [List.pairwise_append]
    refine ⟨h.gens.sublist List.filter_sublist, by simp, fun a ha b hb => ?_⟩
    have e : b = (k, g) := by simpa using hb
    subst e
    have := (h.begun a (List.mem_filter.1 ha).1).2.2.2
    show a.2 < g
    omega
section
set_option maxHeartbeats 4000000
set_option maxRecDepth 8000
theorem cBegin (F : Nat → Prop) (p N : Nat) (C : CV) (v : NoteV) (D : Option Addr) (dn dc : Nat) (Q : Option Addr) (qn qc : Nat) (w : World) (h : CatAt F w p N C) (hN : N ≤ 100000) (hin : NoteIn w v D dn dc Q qn qc) :
    Calls Tryz.prog 39 #[.pointer (some ⟨p, 0, none⟩), noteAgg v D dn dc Q qn qc] w (CatPost F p (N + 1) (beginC C v) w) := by
  have H := Lib.hid h
  have HI := Lib.hid hin
  have hkl : v.key.length ≤ maxLen := hin.key
  obtain ⟨w1, hw1⟩ : ∃ w1, w1 = w.alloc (.cells (noteCells v D dn dc Q qn qc) 32) := ⟨_, rfl⟩
  have hb1 : Below w.heap.size w w1 := by rw [hw1]; exact (Below.refl _ _).alloc (Nat.le_refl _) _
  have hB1 : Blk w1 w.heap.size 32 (noteCells v D dn dc Q qn qc) := by rw [hw1]; exact Blk.made w _ _
  have W1 := Lib.hid hw1
  have HB1 := Lib.hid hb1
  have BN1 := Lib.hid hB1
  have k1 : w1.cell? ⟨w.heap.size, 1, none⟩ = some (encStr v.key) := hB1.cell 1
  have k2 : w1.cell? ⟨w.heap.size, 2, none⟩ = some (.int .i64 v.gen) := hB1.cell 2
  have H1 := Lib.hid (h.below hb1)
  clear hin h hb1 hB1 hw1
  unfold noteAgg
  go_enter Tryz.func39, Tryz.ntmps39
  go_upto_region 1 with fail
  rw [show w.alloc (.cells #[.int .i64 v.kind, .string ⟨v.key.toArray⟩, .int .i64 v.gen, .int .i64 v.cart, .slice D dn dc, .string ⟨v.sum.toArray⟩, .int .i64 v.size, .slice Q qn qc] 32) = w1 from W1.out.symm]
  cases hl : laterB C v.gen with
  | false =>
    have HE := Lib.hid (show beginC C v = (12, C) from if_pos hl)
    have HL := Lib.hid hl
    clear hl
    go_wp2_with (go_at_call 73; refine (cLater F p N C v.gen _ H1.out).mono ?_; rw [HL.out]; rintro e w2 ⟨rfl, rfl⟩)
    go_ret
    rw [HE.out]
    exact CatPost.same H.out (Nat.le_succ _) HB1.out
  | true =>
    have HL := Lib.hid hl
    have hl' : ¬ laterB C v.gen = false := by rw [hl]; simp
    by_cases hk0 : v.key = []
    · have HE := Lib.hid (show beginC C v = (0, { C with gen := v.gen }) by unfold beginC; rw [if_neg hl', if_neg (by rw [hk0]; simp), if_pos hk0])
      have d1 : (v.key == ([] : List UInt8)) = true := by rw [hk0]; rfl
      have d2 : (v.key != ([] : List UInt8)) = false := by rw [hk0]; rfl
      clear hl hl'
      have hk1 : w1.cell? ⟨w.heap.size, 1, none⟩ = some (encStr []) := by rw [← hk0]; exact k1
      clear k1
      obtain ⟨sv, tv, SR, ER, be, bb, br, h2⟩ := H1.out
      have R2 := Lib.hid h2
      have f5 : w1.frozen? ⟨p, 5, none⟩ = false := h2.blk.free 5
      have c5 : w1.cell? ⟨p, 5, none⟩ = some (.int .i64 C.gen) := h2.blk.cell 5
      have hnp : w.heap.size ≠ p := blk_ne BN1.out h2.blk (by decide)
      have K0 := Lib.hid hk0
      clear h2 hk0
      go_wp2_with (go_at_call 73; refine (cLater F p N C v.gen _ H1.out).mono ?_; rw [HL.out]; rintro e w2 ⟨rfl, rfl⟩)
      go_ret
      rw [HE.out]
      have hc : Chg (fun k => k = p) w1 (w1.setCell ⟨p, 5, none⟩ (.int .i64 v.gen)) := (Chg.refl (fun k => k = p) w1).store (p := ⟨p, 5, none⟩) (.inl rfl) _
      have hcT : Chg (CatTurns p sv tv be bb br) w1 (w1.setCell ⟨p, 5, none⟩ (.int .i64 v.gen)) := hc.mono (fun i e => .inl e)
      have hm := R2.out.map_ne
      exact R2.out.post HB1.out hcT (R2.out.build (C' := { C with gen := v.gen }) hcT (R2.out.blk.store 5 _) (R2.out.stg_same hc (fun g hg => (R2.out.stg_ne hg).1)) R2.out.stgs (fun r hr => .inl hr) ((R2.out.ents.of_eq (hc.block be R2.out.ents.lt (fun e => hm.1 e.symm))).mono (Nat.le_succ _)) R2.out.entr (fun r hr => .inl hr) ((R2.out.begs.of_eq (hc.block bb R2.out.begs.lt (fun e => hm.2.1 e.symm))).mono (Nat.le_succ _)) (R2.out.tmb_same hc (fun g hg => (R2.out.tmb_ne hg).1)) ((R2.out.rets.of_eq (hc.block br R2.out.rets.lt (fun e => hm.2.2 e.symm))).mono (Nat.le_succ _)) (by
        have hw := (gen_wf R2.out.wf HL.out).1
        exact { hw with staged := Nat.le_succ_of_le hw.staged, tombs := Nat.le_succ_of_le hw.tombs })) 0
    · have d1 : (v.key == ([] : List UInt8)) = false := by simpa using hk0
      have d2 : (v.key != ([] : List UInt8)) = true := by simpa using hk0
      cases hh : hasC C v.key with
      | false =>
        have HE := Lib.hid (show beginC C v = (5, C) by unfold beginC; rw [if_neg hl', if_pos ⟨hk0, hh⟩])
        have HH := Lib.hid hh
        have K0 := Lib.hid hk0
        clear hl hl' hh hk0
        go_wp2_with (first
          | (go_at_call 73; refine (cLater F p N C v.gen _ H1.out).mono ?_; rw [HL.out]; rintro e w2 ⟨rfl, rfl⟩)
          | (go_at_call 18; refine (cHas F p N C v.key _ H1.out hkl).mono ?_; rw [HH.out]; rintro e w2 ⟨rfl, hb2⟩; have B2 := Lib.hid (HB1.out.trans (hb2.mono HB1.out.size)); clear hb2))
        go_ret
        rw [HE.out]
        exact CatPost.same H.out (Nat.le_succ _) B2.out
      | true =>
        have HE := Lib.hid (show beginC C v = (0, { C with gen := v.gen, begun := putL C.begun v.key v.gen }) by unfold beginC; rw [if_neg hl', if_neg (by rw [hh]; simp), if_neg hk0])
        have HH := Lib.hid hh
        have K0 := Lib.hid hk0
        clear hl hl' hh hk0
        go_upto_region 5 with (first
          | (go_at_call 73; refine (cLater F p N C v.gen _ H1.out).mono ?_; rw [HL.out]; rintro e w2 ⟨rfl, rfl⟩)
          | (go_at_call 18; refine (cHas F p N C v.key _ H1.out hkl).mono ?_; rw [HH.out]; rintro e w2 ⟨rfl, hb2⟩; have B2 := Lib.hid hb2; clear hb2))
        obtain ⟨sv, tv, SR, ER, be, bb, br, h2⟩ := H1.out.below B2.out
        have R2 := Lib.hid h2
        have f5 : w2.frozen? ⟨p, 5, none⟩ = false := h2.blk.free 5
        have c5 : w2.cell? ⟨p, 5, none⟩ = some (.int .i64 C.gen) := h2.blk.cell 5
        have hbn : w.heap.size < w1.heap.size := BN1.out.size
        have BN2 := Lib.hid (BN1.out.below B2.out hbn)
        have hnp : w.heap.size ≠ p := blk_ne BN2.out h2.blk (by decide)
        have k1' : w2.cell? ⟨w.heap.size, 1, none⟩ = some (encStr v.key) := BN2.out.cell 1
        have k2' : w2.cell? ⟨w.heap.size, 2, none⟩ = some (.int .i64 v.gen) := BN2.out.cell 2
        have hm := h2.map_ne
        clear h2 k1 k2
        obtain ⟨w3, hw3⟩ : ∃ w3, w3 = w2.setCell ⟨p, 5, none⟩ (.int .i64 v.gen) := ⟨_, rfl⟩
        have hc3 : Chg (fun k => k = p) w2 w3 := by rw [hw3]; exact (Chg.refl (fun k => k = p) w2).store (p := ⟨p, 5, none⟩) (.inl rfl) _
        have BP3 := Lib.hid (show Blk w3 p 68 #[sv, .map (some be), .map (some bb), tv, .map (some br), .int .i64 v.gen] by rw [hw3]; exact R2.out.blk.store 5 _)
        have BN3 := Lib.hid (show Blk w3 w.heap.size 32 (noteCells v D dn dc Q qn qc) by rw [hw3]; exact BN2.out.apart hnp _)
        have HC3 := Lib.hid hc3
        have MB3 := Lib.hid (R2.out.begs.of_eq (hc3.block bb R2.out.begs.lt (fun e => hm.2.1 e.symm)))
        have W3 := Lib.hid hw3
        clear hc3 hw3
        go_upto_region 7 with fail
        rw [← W3.out]
        obtain ⟨w4, hrun, hm4, hg4⟩ := (MB3.out.of_eq (w' := w3.drew) rfl).store (t := 64) (e := 3) Tryz.underlying64 (by simp only [maxLen]; omega) (k := v.key) hkl (.int .i64 v.gen)
        have hrun' : (Instr.mapUpdate 64 (.map (some bb)) (encStr v.key) (.int .i64 v.gen)).run Tryz.prog w3.drew = .ok () w4 := hrun
        have q2 : w3.cell? ⟨p, 2, none⟩ = some (.map (some bb)) := BP3.out.cell 2
        have q1 : w3.cell? ⟨w.heap.size, 1, none⟩ = some (encStr v.key) := BN3.out.cell 1
        have q3 : w3.cell? ⟨w.heap.size, 2, none⟩ = some (.int .i64 v.gen) := BN3.out.cell 2
        have BP4 := Lib.hid (show Blk w4 p 68 #[sv, .map (some be), .map (some bb), tv, .map (some br), .int .i64 v.gen] from Blk.grown (w := w3.drew) BP3.out hg4 (fun e => hm.2.1 (Option.some.inj e).symm))
        have BN4 := Lib.hid (show Blk w4 w.heap.size 32 (noteCells v D dn dc Q qn qc) from Blk.grown (w := w3.drew) BN3.out hg4 (fun e => blk_apart BN3.out MB3.out (Option.some.inj e).symm))
        have r2 : w4.cell? ⟨p, 2, none⟩ = some (.map (some bb)) := BP4.out.cell 2
        have r1 : w4.cell? ⟨w.heap.size, 1, none⟩ = some (encStr v.key) := BN4.out.cell 1
        have r3 : w4.cell? ⟨w.heap.size, 2, none⟩ = some (.int .i64 v.gen) := BN4.out.cell 2
        have M4 := Lib.hid hm4
        have G4 := Lib.hid hg4
        clear hrun hm4 hg4 k1' k2'
        go_region_held3 (fun w' => w'.cell? ⟨p, 2, none⟩ = some (.map (some bb)) ∧ w'.cell? ⟨w.heap.size, 1, none⟩ = some (encStr v.key) ∧ w'.cell? ⟨w.heap.size, 2, none⟩ = some (.int .i64 v.gen)) (first | exact ⟨q2, q1, q3⟩ | exact ⟨r2, r1, r3⟩) (first | fail)
        go_wp2_with fail
        go_ret
        rw [HE.out]
        have hc4 : Chg (fun k => k = p ∨ k = bb) w2 w4 := (HC3.out.mono (T := fun k => k = p ∨ k = bb) (fun i e => .inl e)).grown (show w3.grownBy w4 (some bb) from ⟨G4.out.os, G4.out.tape, G4.out.output, G4.out.size, G4.out.block⟩) (fun g e => .inl (.inr (Option.some.inj e).symm))
        have hcT : Chg (CatTurns p sv tv be bb br) w2 w4 := hc4.mono (fun i e => e.elim .inl (fun e => .inr (.inr (.inr (.inr (.inl e))))))
        have hn := R2.out.neq
        refine R2.out.post (HB1.out.trans (B2.out.mono HB1.out.size)) hcT (R2.out.build (C' := { C with gen := v.gen, begun := putL C.begun v.key v.gen }) hcT BP4.out (R2.out.stg_same hc4 (fun g hg e => e.elim (R2.out.stg_ne hg).1 (R2.out.stg_ne hg).2.2.2.1)) R2.out.stgs (fun r hr => .inl hr) ((R2.out.ents.of_eq (hc4.block be R2.out.ents.lt (fun e => e.elim (fun e => hm.1 e.symm) hn.1))).mono (Nat.le_succ _)) R2.out.entr (fun r hr => .inl hr) ?_ (R2.out.tmb_same hc4 (fun g hg e => e.elim (R2.out.tmb_ne hg).1 (R2.out.tmb_ne hg).2.2.2.1)) ((R2.out.rets.of_eq (hc4.block br R2.out.rets.lt (fun e => e.elim (fun e => hm.2.2 e.symm) (fun e => hn.2.2 e.symm)))).mono (Nat.le_succ _)) ?_) 0
        · have h := M4.out
          unfold begunVals at h ⊢
          rw [putL_map (fun g : Int => .int .i64 g)] at h
          exact h
        · have hw := begin_wf R2.out.wf HL.out (hasC_len R2.out.wf HH.out)
          exact { hw with staged := Nat.le_succ_of_le hw.staged, tombs := Nat.le_succ_of_le hw.tombs }
end
end Go.Proofs.YtmkccblcmiflfaaGreat

namespace Go.Proofs.YtmkccblcmiflfaaGreat
open Go.RowKit

theorem take_list {l : List Oper} {i : Nat} {o : Oper} (h : l[i]? = some o) : l.toArray[i]? = some o := by simpa using h
def writeAt (cs : Array Value) : Nat → List Value → Array Value
  | _, [] => cs
  | o, v :: r => writeAt (cs.setIfInBounds o v) (o + 1) r
theorem Blk.setCells {w : World} {g : Nat} {t : TypeId} : ∀ {vs : List Value} {o : Nat} {cs : Array Value}, Blk w g t cs → Blk (w.setCells g o vs) g t (writeAt cs o vs)
  | [], _, _, h => h
  | v :: r, o, cs, h => by
    unfold World.setCells writeAt
    exact Blk.setCells (w := w.setCell ⟨g, o, none⟩ v) (h.store o v)
theorem writeAt_size : ∀ (vs : List Value) (o : Nat) (cs : Array Value), (writeAt cs o vs).size = cs.size
  | [], _, _ => rfl
  | v :: r, o, cs => by unfold writeAt; rw [writeAt_size r]; simp
theorem writeAt_list : ∀ (vs : List Value) (o : Nat) (cs : Array Value), o + vs.length ≤ cs.size → (writeAt cs o vs).toList = cs.toList.take o ++ vs ++ cs.toList.drop (o + vs.length)
  | [], o, cs, _ => by simp [writeAt]
  | v :: r, o, cs, h => by
    simp only [List.length_cons] at h
    unfold writeAt
    rw [writeAt_list r (o + 1) _ (by simp; omega), Array.toList_setIfInBounds, List.length_cons, List.drop_set_of_lt (by omega)]
    have ho : o < cs.toList.length := by simp; omega
    rw [List.take_set, List.take_succ_eq_append_getElem ho, List.set_append_right _ _ (by simp; omega)]
    simp only [List.length_take, Nat.min_eq_left (Nat.le_of_lt ho), Nat.sub_self, List.set_cons_zero, List.append_assoc, List.cons_append, List.nil_append]
    rw [show o + 1 + r.length = o + (r.length + 1) by omega]
theorem chg_setCells {S : Nat → Prop} {a : World} {g : Nat} (hg : S g) : ∀ (vs : List Value) (o : Nat) (w : World), Chg S a w → Chg S a (w.setCells g o vs)
  | [], _, _, h => h
  | v :: r, o, w, h => by
    unfold World.setCells
    exact chg_setCells hg r (o + 1) _ (h.store (p := ⟨g, o, none⟩) (.inl hg) v)
theorem run_clear_one {P : Program} (w : World) (t e ty : TypeId) (z : Value) (zs : List Value) (ht : P.underlying t = some (.slice e)) (hv : ∀ w, (zeroValue e).run P w = .ok z w) (hz : (Builtin.zeroCells z.cells 1).toList = zs) (h1 : ∀ u ∈ zs, u.oneCell' = true) (b o c : Nat)
    (hc : ∀ j, j < zs.length → (w.cell? ⟨b, o + j, none⟩).isSome = true) (hf : ∀ j, j < zs.length → w.frozen? ⟨b, o + j, none⟩ = false) :
    (Builtin.clear_ #[t] ty #[.slice (some ⟨b, o, none⟩) 1 c]).run P w = .ok (.tuple #[]) (w.setCells b o zs) := by
  have hst := run_storeCells_cells (P := P) b o zs 0 w (by simpa using hc) (by simpa using hf) h1
  simp only [Nat.add_zero] at hst
  simp [Builtin.clear_, run_underlying ht, hv, hz, hst]
/-- The row, one element less. -/
def cutRow (size i : Nat) (xs : List Value) : List Value := xs.take (i * size) ++ xs.drop ((i + 1) * size)
theorem blobD_info : (Tryz.prog.info? 70).map (fun i => (i.zero, i.size, i.bytes)) = some (some (.agg #[.string ⟨#[]⟩, .slice none 0 0]), 2, 40) := by kernel_rfl
theorem cut_own {F : Nat → Prop} {w : World} {t : TypeId} {size n g cap i : Nat} {xs zs : List Value} (h : OwnRow F w t size (.slice (some ⟨g, 0, none⟩) n cap) n xs) (hi : i < n) (hz : zs.length = size) :
    OwnRow F ((w.setCells g (i * size) (xs.drop ((i + 1) * size))).setCells g ((n - 1) * size) zs) t size (.slice (some ⟨g, 0, none⟩) (n - 1) cap) (n - 1) (cutRow size i xs) ∧
    Chg (fun k => k = g) w ((w.setCells g (i * size) (xs.drop ((i + 1) * size))).setCells g ((n - 1) * size) zs) := by
  refine ⟨⟨⟨?_, ?_⟩, h.2⟩, chg_setCells (S := fun k => k = g) rfl _ _ _ (chg_setCells (S := fun k => k = g) rfl _ _ _ (Chg.refl _ _))⟩
  · have hl := h.1.1
    unfold cutRow
    rw [List.length_append, List.length_take, List.length_drop, hl]
    have h1 : (i + 1) * size ≤ n * size := Nat.mul_le_mul_right _ (by omega)
    have h2 : (i + 1) * size = i * size + size := Nat.succ_mul _ _
    have h3 : n * size = (n - 1) * size + size := by rw [← Nat.succ_mul]; congr 1; omega
    rw [Nat.min_eq_left (by omega)]
    omega
  · rcases h.1.2 with ⟨e, _⟩ | ⟨g', cap', cur, e, h1, h2, h3, h4, h5, h6⟩
    · cases e
    · injection e with e1 _ e3
      injection e1 with e1
      injection e1 with e1
      subst e1
      subst e3
      refine .inr ⟨g, cap, _, rfl, h1, (Blk.setCells (Blk.setCells (show Blk w g t cur from h2))), by omega, h4, by rw [writeAt_size, writeAt_size]; exact h5, ?_⟩
      have hl := h.1.1
      have hcs : n * size ≤ cap * size := Nat.mul_le_mul_right _ h3
      have g1 : (i + 1) * size ≤ n * size := Nat.mul_le_mul_right _ (by omega)
      have g2 : (i + 1) * size = i * size + size := Nat.succ_mul _ _
      have g3 : n * size = (n - 1) * size + size := by rw [← Nat.succ_mul]; congr 1; omega
      have hd : (xs.drop ((i + 1) * size)).length = n * size - (i + 1) * size := by rw [List.length_drop, hl]
      rw [writeAt_list _ _ _ (by rw [writeAt_size]; omega), writeAt_list _ _ _ (by omega)]
      unfold cutRow
      have e1 : cur.toList.take (i * size) = xs.take (i * size) := by rw [← h6, List.take_take, Nat.min_eq_left (by omega)]
      rw [e1]
      have hlen : (xs.take (i * size) ++ xs.drop ((i + 1) * size)).length = (n - 1) * size := by
        rw [List.length_append, List.length_take, hd, hl, Nat.min_eq_left (by omega)]
        omega
      have e2 : (xs.take (i * size) ++ xs.drop ((i + 1) * size) ++ cur.toList.drop (i * size + (xs.drop ((i + 1) * size)).length)).take ((n - 1) * size) = xs.take (i * size) ++ xs.drop ((i + 1) * size) := by
        rw [List.take_append_of_le_length (by omega), List.take_of_length_le (by omega)]
      rw [e2, List.append_assoc, List.take_append_of_le_length (by omega), List.take_of_length_le (by omega)]
def zeroBlob : List Value := [.string ⟨#[]⟩, .slice none 0 0]
theorem clrBlob {F : Nat → Prop} {w : World} {g cap i m n' c' : Nat} {xs : List Value} (h : OwnRow F w 70 2 (.slice (some ⟨g, 0, none⟩) (i + 1 + m) cap) (i + 1 + m) xs) (hn : n' = 1) (o : Nat) (ho : o = (i + m) * 2) :
    (Builtin.clear_ #[66] 0 #[.slice (some ⟨g, o, none⟩) n' c']).run Tryz.prog (w.drew.setCells g (i * 2) (xs.drop ((i + 1) * 2))) = .ok (.tuple #[]) ((w.drew.setCells g (i * 2) (xs.drop ((i + 1) * 2))).setCells g ((i + m) * 2) zeroBlob) := by
  subst hn
  subst ho
  have hb : ∃ cs, Blk (w.drew.setCells g (i * 2) (xs.drop ((i + 1) * 2))) g 70 cs ∧ (i + 1 + m) * 2 ≤ cs.size := by
    rcases h.1.2 with ⟨e, _⟩ | ⟨g', cap', cur, e, _, h2, h3, _, h5, _⟩
    · cases e
    · cases e
      refine ⟨_, Blk.setCells (show Blk w.drew g 70 cur from h2), ?_⟩
      rw [writeAt_size, h5]
      exact Nat.mul_le_mul_right _ h3
  obtain ⟨cs, hB, hsz⟩ := hb
  refine run_clear_one _ 66 70 0 (.agg #[.string ⟨#[]⟩, .slice none 0 0]) zeroBlob Tryz.underlying66 (fun w => by kernel_rfl) (by kernel_rfl) (by intro u hu; simp only [zeroBlob, List.mem_cons, List.not_mem_nil, or_false] at hu; rcases hu with rfl | rfl <;> rfl) g _ _ (fun j hj => ?_) (fun j _ => hB.free _)
  have hj : j < 2 := hj
  rw [hB.cell, Array.getElem?_eq_getElem (by omega)]
  rfl
section
set_option maxHeartbeats 2000000
set_option maxRecDepth 8000
theorem dBlob (F : Nat → Prop) (g cap i m : Nat) (xs : List Value) (w : World) (h : OwnRow F w 70 2 (.slice (some ⟨g, 0, none⟩) (i + 1 + m) cap) (i + 1 + m) xs) (hxs : ∀ u ∈ xs, u.oneCell' = true) :
    Calls Tryz.prog 71 #[.slice (some ⟨g, 0, none⟩) (i + 1 + m) cap, .int .i64 (i : Int), .int .i64 ((i : Int) + 1)] w fun e w' => e = .returned (.slice (some ⟨g, 0, none⟩) (i + m) cap) ∧ OwnRow F w' 70 2 (.slice (some ⟨g, 0, none⟩) (i + m) cap) (i + m) (cutRow 2 i xs) ∧ Chg (fun k => k = g) w w' := by
  have hncap : i + 1 + m ≤ cap ∧ cap ≤ maxLen := by
    rcases h.1.2 with ⟨e, _⟩ | ⟨g', cap', cur, e, _, _, h3, h4, _⟩
    · cases e
    · cases e; exact ⟨h3, h4⟩
  have hc63 : cap ≤ 9223372036854775807 := by have := hncap.2; simp only [maxLen] at this; exact this
  have hnc := hncap.1
  have H := Lib.hid h
  have HXS := Lib.hid hxs
  have d0 : ((i : Int) == (i : Int) + 1) = false := by simp; omega
  clear h hxs hncap
  obtain ⟨i0, hinf, hz0, hz1, hz2⟩ := info_parts blobD_info
  have hrow := H.out.row
  have hxl : xs.length = (i + 1 + m) * 2 := H.out.1.1
  have HC := Lib.hid (show ∀ (j : Nat) u, (xs.drop ((i + 1) * 2))[j]? = some u → w.drew.cell? ((⟨g, (i + 1) * 2, none⟩ : Addr).add j) = some u from fun j u hu => by
    rw [List.getElem?_drop] at hu
    rw [add_plain]
    exact hrow.cell hu)
  have HL := Lib.hid (show (xs.drop ((i + 1) * 2)).length = m * 2 by rw [List.length_drop, hxl]; omega)
  have H1 := Lib.hid (show ∀ u ∈ xs.drop ((i + 1) * 2), u.oneCell' = true from fun u hu => HXS.out u (List.mem_of_mem_drop hu))
  have HSP := Lib.hid (show ∀ j, j < (xs.drop ((i + 1) * 2)).length → (w.drew.cell? ⟨g, 0 + i * 2 + j, none⟩).isSome = true ∧ w.drew.frozen? ⟨g, 0 + i * 2 + j, none⟩ = false from fun j hj => by
    rw [HL.out] at hj
    refine ⟨?_, hrow.free _⟩
    have hlt : 0 + i * 2 + j < xs.length := by omega
    have := hrow.cell (List.getElem?_eq_getElem hlt)
    rw [show w.drew.cell? ⟨g, 0 + i * 2 + j, none⟩ = w.cell? ⟨g, 0 + i * 2 + j, none⟩ from rfl, this]
    rfl)
  clear hrow hxl
  have hic : i ≤ cap := by omega
  have hic1 : i + 1 ≤ cap := by omega
  have hici : (i : Int) ≤ (i : Int) + 1 := by omega
  have hi0 : (0 : Int) ≤ (i : Int) + 1 := by omega
  have himn : (i : Int) + 1 ≤ (i : Int) + 1 + (m : Int) := by omega
  by_cases hci : cap = i + 1
  · obtain rfl : m = 0 := by omega
    subst hci
    have HC0 := Lib.hid (show ∀ (j : Nat) u, (xs.drop ((i + 1) * 2))[j]? = some u → w.drew.cell? ((⟨g, 0, none⟩ : Addr).add j) = some u from fun j u hu => by
      rw [List.eq_nil_of_length_eq_zero HL.out] at hu
      simp at hu)
    go_enter Tryz.func71, Tryz.ntmps71
    go_wp2_with fail
    refine wp_region_held_drew (S := (fun _ => True)) (by kernel_rfl) trivial (fun hHeld => ?_)
    refine tk (i := 0) (v := ?vA0) rfl ?hyA0 ?restA0
    case hyA0 => (intro w hSw; (try dsimp only at hSw); go_simp <;> with_reducible rfl)
    try simp only [Act.put, pt1, pt2, pt3]
    refine tk (i := 1) (v := ?vA1) rfl ?hyA1 ?restA1
    case hyA1 => (intro w hSw; (try dsimp only at hSw); go_simp <;> with_reducible rfl)
    try simp only [Act.put, pt1, pt2, pt3]
    refine tk (i := 2) (v := ?vA2) rfl ?hyA2 ?restA2
    case hyA2 => (intro w hSw; (try dsimp only at hSw); go_simp <;> with_reducible rfl)
    try simp only [Act.put, pt1, pt2, pt3]
    refine tk (i := 3) (v := ?vA3) rfl ?hyA3 ?restA3
    case hyA3 => (intro w hSw; (try dsimp only at hSw); go_simp <;> with_reducible rfl)
    try simp only [Act.put, pt1, pt2, pt3]
    refine tk (i := 4) (v := ?vA4) rfl ?hyA4 ?restA4
    case hyA4 => (intro w hSw; (try dsimp only at hSw); go_simp <;> with_reducible rfl)
    try simp only [Act.put, pt1, pt2, pt3]
    refine tk (i := 5) (v := ?vA5) rfl ?hyA5 ?restA5
    case hyA5 => (intro w hSw; (try dsimp only at hSw); go_simp <;> with_reducible rfl)
    try simp only [Act.put, pt1, pt2, pt3]
    refine wpAnyH_ready (rs := [6]) (by kernel_rfl) (by simp) ?_
    refine AllReadyH.cons rfl (fun K hK => ?_) AllReadyH.nil
    refine step_append_room rfl (.tmp 22) (.tmp 25) 66 rfl 70 i0 2 Tryz.underlying66 hinf hz1 g 0 i _ rfl ⟨g, 0, none⟩ 0 _ (xs.drop ((i + 1) * 2)) rfl HL.out HC0.out H1.out (by omega) HSP.out ?_
    clear hHeld
    refine hK.out _ _ trivial (fun hHeld => ?_)
    clear hK K
    refine tk (i := 7) (v := ?vA7) rfl ?hyA7 ?restA7
    case hyA7 => (intro w hSw; (try dsimp only at hSw); go_simp <;> with_reducible rfl)
    try simp only [Act.put, List.setIfInBounds_toArray]
    refine wpAnyH_done (by kernel_rfl) ?_ _
    have hclr : ∀ c' : Nat, _ := fun c' => clrBlob (m := 0) (n' := 1) (c' := c') H.out (by omega) (i * 2) (by omega)
    have HFIN := Lib.hid (cut_own (i := i) (w := w.drew) (zs := zeroBlob) ((OwnRow.owning ..).keep _ _ _ H.out (Nat.le_refl _) (fun _ _ _ => rfl)) (by omega) rfl)
    go_wp2_with fail
    go_ret
    rw [show i + 1 + 0 - 1 = i + 0 by omega] at HFIN
    exact ⟨rfl, HFIN.out.1, HFIN.out.2.os, HFIN.out.2.tape, HFIN.out.2.output, HFIN.out.2.size, HFIN.out.2.block⟩
  · go_enter Tryz.func71, Tryz.ntmps71
    go_wp2_with fail
    refine wp_region_held_drew (S := (fun _ => True)) (by kernel_rfl) trivial (fun hHeld => ?_)
    refine tk (i := 0) (v := ?vB0) rfl ?hyB0 ?restB0
    case hyB0 => (intro w hSw; (try dsimp only at hSw); go_simp <;> with_reducible rfl)
    try simp only [Act.put, pt1, pt2, pt3]
    refine tk (i := 1) (v := ?vB1) rfl ?hyB1 ?restB1
    case hyB1 => (intro w hSw; (try dsimp only at hSw); go_simp <;> with_reducible rfl)
    try simp only [Act.put, pt1, pt2, pt3]
    refine tk (i := 2) (v := ?vB2) rfl ?hyB2 ?restB2
    case hyB2 => (intro w hSw; (try dsimp only at hSw); go_simp <;> with_reducible rfl)
    try simp only [Act.put, pt1, pt2, pt3]
    refine tk (i := 3) (v := ?vB3) rfl ?hyB3 ?restB3
    case hyB3 => (intro w hSw; (try dsimp only at hSw); go_simp <;> with_reducible rfl)
    try simp only [Act.put, pt1, pt2, pt3]
    refine tk (i := 4) (v := ?vB4) rfl ?hyB4 ?restB4
    case hyB4 => (intro w hSw; (try dsimp only at hSw); go_simp <;> with_reducible rfl)
    try simp only [Act.put, pt1, pt2, pt3]
    refine tk (i := 5) (v := ?vB5) rfl ?hyB5 ?restB5
    case hyB5 => (intro w hSw; (try dsimp only at hSw); go_simp <;> with_reducible rfl)
    try simp only [Act.put, pt1, pt2, pt3]
    refine wpAnyH_ready (rs := [6]) (by kernel_rfl) (by simp) ?_
    refine AllReadyH.cons rfl (fun K hK => ?_) AllReadyH.nil
    refine step_append_room rfl (.tmp 22) (.tmp 25) 66 rfl 70 i0 2 Tryz.underlying66 hinf hz1 g 0 i _ rfl ⟨g, (i + 1) * 2, none⟩ m _ (xs.drop ((i + 1) * 2)) rfl HL.out HC.out H1.out (by omega) HSP.out ?_
    clear hHeld
    refine hK.out _ _ trivial (fun hHeld => ?_)
    clear hK K
    refine tk (i := 7) (v := ?vB7) rfl ?hyB7 ?restB7
    case hyB7 => (intro w hSw; (try dsimp only at hSw); go_simp <;> with_reducible rfl)
    try simp only [Act.put, List.setIfInBounds_toArray]
    refine wpAnyH_done (by kernel_rfl) ?_ _
    have hclr : ∀ c' : Nat, _ := fun c' => clrBlob (m := m) (n' := i + 1 + m - (i + m)) (c' := c') H.out (by omega) ((i + m) * 2) (by omega)
    have HFIN := Lib.hid (cut_own (i := i) (w := w.drew) (zs := zeroBlob) ((OwnRow.owning ..).keep _ _ _ H.out (Nat.le_refl _) (fun _ _ _ => rfl)) (by omega) rfl)
    go_wp2_with fail
    go_ret
    rw [show i + 1 + m - 1 = i + m by omega] at HFIN
    exact ⟨rfl, HFIN.out.1, HFIN.out.2.os, HFIN.out.2.tape, HFIN.out.2.output, HFIN.out.2.size, HFIN.out.2.block⟩
end
theorem noteD_info : (Tryz.prog.info? 32).map (fun i => (i.zero, i.size, i.bytes)) = some (some (.agg #[.int .i64 0, .string ⟨#[]⟩, .int .i64 0, .int .i64 0, .slice none 0 0, .string ⟨#[]⟩, .int .i64 0, .slice none 0 0]), 8, 112) := by kernel_rfl
def zeroNote : List Value := [.int .i64 0, .string ⟨#[]⟩, .int .i64 0, .int .i64 0, .slice none 0 0, .string ⟨#[]⟩, .int .i64 0, .slice none 0 0]
theorem clrNote {F : Nat → Prop} {w : World} {g cap i m n' c' : Nat} {xs : List Value} (h : OwnRow F w 32 8 (.slice (some ⟨g, 0, none⟩) (i + 1 + m) cap) (i + 1 + m) xs) (hn : n' = 1) (o : Nat) (ho : o = (i + m) * 8) :
    (Builtin.clear_ #[22] 0 #[.slice (some ⟨g, o, none⟩) n' c']).run Tryz.prog (w.drew.setCells g (i * 8) (xs.drop ((i + 1) * 8))) = .ok (.tuple #[]) ((w.drew.setCells g (i * 8) (xs.drop ((i + 1) * 8))).setCells g ((i + m) * 8) zeroNote) := by
  subst hn
  subst ho
  have hb : ∃ cs, Blk (w.drew.setCells g (i * 8) (xs.drop ((i + 1) * 8))) g 32 cs ∧ (i + 1 + m) * 8 ≤ cs.size := by
    rcases h.1.2 with ⟨e, _⟩ | ⟨g', cap', cur, e, _, h2, h3, _, h5, _⟩
    · cases e
    · cases e
      refine ⟨_, Blk.setCells (show Blk w.drew g 32 cur from h2), ?_⟩
      rw [writeAt_size, h5]
      exact Nat.mul_le_mul_right _ h3
  obtain ⟨cs, hB, hsz⟩ := hb
  refine run_clear_one _ 22 32 0 (.agg #[.int .i64 0, .string ⟨#[]⟩, .int .i64 0, .int .i64 0, .slice none 0 0, .string ⟨#[]⟩, .int .i64 0, .slice none 0 0]) zeroNote Tryz.underlying22 (fun w => by kernel_rfl) (by kernel_rfl) (by intro u hu; simp only [zeroNote, List.mem_cons, List.not_mem_nil, or_false] at hu; rcases hu with rfl | rfl | rfl | rfl | rfl | rfl | rfl | rfl <;> rfl) g _ _ (fun j hj => ?_) (fun j _ => hB.free _)
  have hj : j < 8 := hj
  rw [hB.cell, Array.getElem?_eq_getElem (by omega)]
  rfl
section
set_option maxHeartbeats 2000000
set_option maxRecDepth 8000
theorem dNote (F : Nat → Prop) (g cap i m : Nat) (xs : List Value) (w : World) (h : OwnRow F w 32 8 (.slice (some ⟨g, 0, none⟩) (i + 1 + m) cap) (i + 1 + m) xs) (hxs : ∀ u ∈ xs, u.oneCell' = true) :
    Calls Tryz.prog 76 #[.slice (some ⟨g, 0, none⟩) (i + 1 + m) cap, .int .i64 (i : Int), .int .i64 ((i : Int) + 1)] w fun e w' => e = .returned (.slice (some ⟨g, 0, none⟩) (i + m) cap) ∧ OwnRow F w' 32 8 (.slice (some ⟨g, 0, none⟩) (i + m) cap) (i + m) (cutRow 8 i xs) ∧ Chg (fun k => k = g) w w' := by
  have hncap : i + 1 + m ≤ cap ∧ cap ≤ maxLen := by
    rcases h.1.2 with ⟨e, _⟩ | ⟨g', cap', cur, e, _, _, h3, h4, _⟩
    · cases e
    · cases e; exact ⟨h3, h4⟩
  have hc63 : cap ≤ 9223372036854775807 := by have := hncap.2; simp only [maxLen] at this; exact this
  have hnc := hncap.1
  have H := Lib.hid h
  have HXS := Lib.hid hxs
  have d0 : ((i : Int) == (i : Int) + 1) = false := by simp; omega
  clear h hxs hncap
  obtain ⟨i0, hinf, hz0, hz1, hz2⟩ := info_parts noteD_info
  have hrow := H.out.row
  have hxl : xs.length = (i + 1 + m) * 8 := H.out.1.1
  have HC := Lib.hid (show ∀ (j : Nat) u, (xs.drop ((i + 1) * 8))[j]? = some u → w.drew.cell? ((⟨g, (i + 1) * 8, none⟩ : Addr).add j) = some u from fun j u hu => by
    rw [List.getElem?_drop] at hu
    rw [add_plain]
    exact hrow.cell hu)
  have HL := Lib.hid (show (xs.drop ((i + 1) * 8)).length = m * 8 by rw [List.length_drop, hxl]; omega)
  have H1 := Lib.hid (show ∀ u ∈ xs.drop ((i + 1) * 8), u.oneCell' = true from fun u hu => HXS.out u (List.mem_of_mem_drop hu))
  have HSP := Lib.hid (show ∀ j, j < (xs.drop ((i + 1) * 8)).length → (w.drew.cell? ⟨g, 0 + i * 8 + j, none⟩).isSome = true ∧ w.drew.frozen? ⟨g, 0 + i * 8 + j, none⟩ = false from fun j hj => by
    rw [HL.out] at hj
    refine ⟨?_, hrow.free _⟩
    have hlt : 0 + i * 8 + j < xs.length := by omega
    have := hrow.cell (List.getElem?_eq_getElem hlt)
    rw [show w.drew.cell? ⟨g, 0 + i * 8 + j, none⟩ = w.cell? ⟨g, 0 + i * 8 + j, none⟩ from rfl, this]
    rfl)
  clear hrow hxl
  have hic : i ≤ cap := by omega
  have hic1 : i + 1 ≤ cap := by omega
  have hici : (i : Int) ≤ (i : Int) + 1 := by omega
  have hi0 : (0 : Int) ≤ (i : Int) + 1 := by omega
  have himn : (i : Int) + 1 ≤ (i : Int) + 1 + (m : Int) := by omega
  by_cases hci : cap = i + 1
  · obtain rfl : m = 0 := by omega
    subst hci
    have HC0 := Lib.hid (show ∀ (j : Nat) u, (xs.drop ((i + 1) * 8))[j]? = some u → w.drew.cell? ((⟨g, 0, none⟩ : Addr).add j) = some u from fun j u hu => by
      rw [List.eq_nil_of_length_eq_zero HL.out] at hu
      simp at hu)
    go_enter Tryz.func76, Tryz.ntmps76
    go_wp2_with fail
    refine wp_region_held_drew (S := (fun _ => True)) (by kernel_rfl) trivial (fun hHeld => ?_)
    refine tk (i := 0) (v := ?vA0) rfl ?hyA0 ?restA0
    case hyA0 => (intro w hSw; (try dsimp only at hSw); go_simp <;> with_reducible rfl)
    try simp only [Act.put, pt1, pt2, pt3]
    refine tk (i := 1) (v := ?vA1) rfl ?hyA1 ?restA1
    case hyA1 => (intro w hSw; (try dsimp only at hSw); go_simp <;> with_reducible rfl)
    try simp only [Act.put, pt1, pt2, pt3]
    refine tk (i := 2) (v := ?vA2) rfl ?hyA2 ?restA2
    case hyA2 => (intro w hSw; (try dsimp only at hSw); go_simp <;> with_reducible rfl)
    try simp only [Act.put, pt1, pt2, pt3]
    refine tk (i := 3) (v := ?vA3) rfl ?hyA3 ?restA3
    case hyA3 => (intro w hSw; (try dsimp only at hSw); go_simp <;> with_reducible rfl)
    try simp only [Act.put, pt1, pt2, pt3]
    refine tk (i := 4) (v := ?vA4) rfl ?hyA4 ?restA4
    case hyA4 => (intro w hSw; (try dsimp only at hSw); go_simp <;> with_reducible rfl)
    try simp only [Act.put, pt1, pt2, pt3]
    refine tk (i := 5) (v := ?vA5) rfl ?hyA5 ?restA5
    case hyA5 => (intro w hSw; (try dsimp only at hSw); go_simp <;> with_reducible rfl)
    try simp only [Act.put, pt1, pt2, pt3]
    refine wpAnyH_ready (rs := [6]) (by kernel_rfl) (by simp) ?_
    refine AllReadyH.cons rfl (fun K hK => ?_) AllReadyH.nil
    refine step_append_room rfl (.tmp 22) (.tmp 25) 22 rfl 32 i0 8 Tryz.underlying22 hinf hz1 g 0 i _ rfl ⟨g, 0, none⟩ 0 _ (xs.drop ((i + 1) * 8)) rfl HL.out HC0.out H1.out (by omega) HSP.out ?_
    clear hHeld
    refine hK.out _ _ trivial (fun hHeld => ?_)
    clear hK K
    refine tk (i := 7) (v := ?vA7) rfl ?hyA7 ?restA7
    case hyA7 => (intro w hSw; (try dsimp only at hSw); go_simp <;> with_reducible rfl)
    try simp only [Act.put, List.setIfInBounds_toArray]
    refine wpAnyH_done (by kernel_rfl) ?_ _
    have hclr : ∀ c' : Nat, _ := fun c' => clrNote (m := 0) (n' := 1) (c' := c') H.out (by omega) (i * 8) (by omega)
    have HFIN := Lib.hid (cut_own (i := i) (w := w.drew) (zs := zeroNote) ((OwnRow.owning ..).keep _ _ _ H.out (Nat.le_refl _) (fun _ _ _ => rfl)) (by omega) rfl)
    go_wp2_with fail
    go_ret
    rw [show i + 1 + 0 - 1 = i + 0 by omega] at HFIN
    exact ⟨rfl, HFIN.out.1, HFIN.out.2.os, HFIN.out.2.tape, HFIN.out.2.output, HFIN.out.2.size, HFIN.out.2.block⟩
  · go_enter Tryz.func76, Tryz.ntmps76
    go_wp2_with fail
    refine wp_region_held_drew (S := (fun _ => True)) (by kernel_rfl) trivial (fun hHeld => ?_)
    refine tk (i := 0) (v := ?vB0) rfl ?hyB0 ?restB0
    case hyB0 => (intro w hSw; (try dsimp only at hSw); go_simp <;> with_reducible rfl)
    try simp only [Act.put, pt1, pt2, pt3]
    refine tk (i := 1) (v := ?vB1) rfl ?hyB1 ?restB1
    case hyB1 => (intro w hSw; (try dsimp only at hSw); go_simp <;> with_reducible rfl)
    try simp only [Act.put, pt1, pt2, pt3]
    refine tk (i := 2) (v := ?vB2) rfl ?hyB2 ?restB2
    case hyB2 => (intro w hSw; (try dsimp only at hSw); go_simp <;> with_reducible rfl)
    try simp only [Act.put, pt1, pt2, pt3]
    refine tk (i := 3) (v := ?vB3) rfl ?hyB3 ?restB3
    case hyB3 => (intro w hSw; (try dsimp only at hSw); go_simp <;> with_reducible rfl)
    try simp only [Act.put, pt1, pt2, pt3]
    refine tk (i := 4) (v := ?vB4) rfl ?hyB4 ?restB4
    case hyB4 => (intro w hSw; (try dsimp only at hSw); go_simp <;> with_reducible rfl)
    try simp only [Act.put, pt1, pt2, pt3]
    refine tk (i := 5) (v := ?vB5) rfl ?hyB5 ?restB5
    case hyB5 => (intro w hSw; (try dsimp only at hSw); go_simp <;> with_reducible rfl)
    try simp only [Act.put, pt1, pt2, pt3]
    refine wpAnyH_ready (rs := [6]) (by kernel_rfl) (by simp) ?_
    refine AllReadyH.cons rfl (fun K hK => ?_) AllReadyH.nil
    refine step_append_room rfl (.tmp 22) (.tmp 25) 22 rfl 32 i0 8 Tryz.underlying22 hinf hz1 g 0 i _ rfl ⟨g, (i + 1) * 8, none⟩ m _ (xs.drop ((i + 1) * 8)) rfl HL.out HC.out H1.out (by omega) HSP.out ?_
    clear hHeld
    refine hK.out _ _ trivial (fun hHeld => ?_)
    clear hK K
    refine tk (i := 7) (v := ?vB7) rfl ?hyB7 ?restB7
    case hyB7 => (intro w hSw; (try dsimp only at hSw); go_simp <;> with_reducible rfl)
    try simp only [Act.put, List.setIfInBounds_toArray]
    refine wpAnyH_done (by kernel_rfl) ?_ _
    have hclr : ∀ c' : Nat, _ := fun c' => clrNote (m := m) (n' := i + 1 + m - (i + m)) (c' := c') H.out (by omega) ((i + m) * 8) (by omega)
    have HFIN := Lib.hid (cut_own (i := i) (w := w.drew) (zs := zeroNote) ((OwnRow.owning ..).keep _ _ _ H.out (Nat.le_refl _) (fun _ _ _ => rfl)) (by omega) rfl)
    go_wp2_with fail
    go_ret
    rw [show i + 1 + m - 1 = i + m by omega] at HFIN
    exact ⟨rfl, HFIN.out.1, HFIN.out.2.os, HFIN.out.2.tape, HFIN.out.2.output, HFIN.out.2.size, HFIN.out.2.block⟩
end
end Go.Proofs.YtmkccblcmiflfaaGreat

namespace Go.Proofs.YtmkccblcmiflfaaGreat
open Go.RowKit Go.Maps Go.WideMaps

def isTomb (k : Str) (g : Int) (q : Str × Int) : Bool := decide (q.1 = k) && decide (q.2 = g)
def tombAgg (q : Str × Int) : Value := .agg #[.int .i64 6, encStr q.1, .int .i64 q.2, .int .i64 0, .slice none 0 0, encStr [], .int .i64 1, .slice none 0 0]
theorem tombVals_get {L : List (Str × Int)} {i : Nat} {q : Str × Int} (h : L[i]? = some q) {j : Nat} {u : Value} (hu : (#[.int .i64 6, encStr q.1, .int .i64 q.2, .int .i64 0, .slice none 0 0, encStr [], .int .i64 1, .slice none 0 0] : Array Value)[j]? = some u) : (tombVals L)[i * 8 + j]? = some u := by
  induction L generalizing i with
  | nil => simp at h
  | cons x L ih =>
    have hl : (tombVals (x :: L)) = [.int .i64 6, encStr x.1, .int .i64 x.2, .int .i64 0, .slice none 0 0, encStr [], .int .i64 1, .slice none 0 0] ++ tombVals L := rfl
    have hj : j < 8 := by
      have := (Array.getElem?_eq_some_iff.1 hu).1
      simpa using this
    rw [hl]
    cases i with
    | zero =>
      have e : x = q := by simpa using h
      subst e
      rw [List.getElem?_append_left (by simp; omega), Nat.zero_mul, Nat.zero_add]
      simpa using hu
    | succ i =>
      have := ih (i := i) (by simpa using h)
      rw [List.getElem?_append_right (by simp; omega), show (i + 1) * 8 + j - [.int .i64 6, encStr x.1, .int .i64 x.2, .int .i64 0, .slice none 0 0, encStr [], .int .i64 1, Value.slice none 0 0].length = i * 8 + j by simp; omega]
      exact this
theorem tombVals_snoc (L : List (Str × Int)) (q : Str × Int) : tombVals (L ++ [q]) = tombVals L ++ [.int .i64 6, encStr q.1, .int .i64 q.2, .int .i64 0, .slice none 0 0, encStr [], .int .i64 1, .slice none 0 0] := by simp [tombVals]
theorem tombVals_one (L : List (Str × Int)) : ∀ u ∈ tombVals L, u.oneCell' = true := by
  intro u hu
  obtain ⟨q, _, hu⟩ := List.mem_flatMap.1 hu
  simp only [List.mem_cons, List.not_mem_nil, or_false] at hu
  rcases hu with rfl | rfl | rfl | rfl | rfl | rfl | rfl | rfl <;> rfl
theorem tombVals_cut (L : List (Str × Int)) (i : Nat) (hi : i < L.length) : cutRow 8 i (tombVals L) = tombVals (L.eraseIdx i) := by
  induction L generalizing i with
  | nil => simp at hi
  | cons x L ih =>
    have hl : (tombVals (x :: L)) = [.int .i64 6, encStr x.1, .int .i64 x.2, .int .i64 0, .slice none 0 0, encStr [], .int .i64 1, .slice none 0 0] ++ tombVals L := rfl
    cases i with
    | zero =>
      unfold cutRow
      rw [hl, List.eraseIdx_cons_zero]
      rfl
    | succ i =>
      have := ih i (by simpa using hi)
      unfold cutRow at this ⊢
      rw [hl, List.eraseIdx_cons_succ, show (i + 1) * 8 = 8 + i * 8 by omega, show (i + 1 + 1) * 8 = 8 + (i + 1) * 8 by omega]
      have e1 : ∀ (P T : List Value) (n : Nat), P.length = 8 → (P ++ T).take (8 + n) = P ++ T.take n := fun P T n hP => by rw [List.take_append, hP, List.take_of_length_le (by omega)]; congr 1; congr 1; omega
      have e2 : ∀ (P T : List Value) (n : Nat), P.length = 8 → (P ++ T).drop (8 + n) = T.drop n := fun P T n hP => by rw [List.drop_append, hP, List.drop_eq_nil_of_le (by omega), List.nil_append]; congr 1; omega
      rw [e1 _ _ _ rfl, e2 _ _ _ rfl, List.append_assoc, this]
      rfl
section
set_option maxHeartbeats 1000000
theorem tomb1_any (q : Str × Int) (k : Str) (g : Int) (nb : Nat) (w : World) (h1 : w.cell? ⟨nb, 1, none⟩ = some (encStr k)) (h2 : w.cell? ⟨nb, 2, none⟩ = some (.int .i64 g)) :
    Calls Tryz.prog 75 #[tombAgg q, .pointer (some ⟨nb, 0, none⟩)] w fun e w' => e = .returned (.bool (isTomb k g q)) ∧ Below w.heap.size w w' := by
  have hnb := World.block_lt_of_cell? w _ h1
  have hne : w.heap.size ≠ nb := Nat.ne_of_gt hnb
  have hb : Below w.heap.size w (w.alloc (.cells #[.int .i64 6, encStr q.1, .int .i64 q.2, .int .i64 0, .slice none 0 0, encStr [], .int .i64 1, .slice none 0 0] 32)) := (Below.refl _ w).alloc (Nat.le_refl _) _
  have k1 := (hb.cell (p := ⟨nb, 1, none⟩) hnb).trans h1
  have k2 := (hb.cell (p := ⟨nb, 2, none⟩) hnb).trans h2
  have HB := Lib.hid hb
  clear hb
  unfold tombAgg
  by_cases hk : q.1 = k
  · by_cases hg : q.2 = g
    · have HE := Lib.hid (show isTomb k g q = true by unfold isTomb; rw [hk, hg]; simp)
      subst hk
      subst hg
      go_enter Tryz.func75, Tryz.ntmps75
      go_wp2
      go_ret
      exact ⟨ret_b HE.out.symm, HB.out⟩
    · have HE := Lib.hid (show isTomb k g q = false by unfold isTomb; rw [decide_eq_false hg, Bool.and_false])
      subst hk
      have e1 : (q.2 == g) = false := by simpa using hg
      clear hg
      go_enter Tryz.func75, Tryz.ntmps75
      go_wp2
      go_ret
      exact ⟨ret_b HE.out.symm, HB.out⟩
  · have HE := Lib.hid (show isTomb k g q = false by unfold isTomb; rw [decide_eq_false hk, Bool.false_and])
    have e1 : (q.1 == k) = false := by simpa using hk
    clear hk
    go_enter Tryz.func75, Tryz.ntmps75
    go_wp2
    go_ret
    exact ⟨ret_b HE.out.symm, HB.out⟩
theorem ixNote (F : Nat → Prop) (v : Value) (n : Nat) (L : List (Str × Int)) (key : Str) (gen : Int) (nb : Nat) (w : World) (h : OwnRow F w 32 8 v n (tombVals L)) (hn : L.length = n) (hk : w.cell? ⟨nb, 1, none⟩ = some (encStr key)) (hg2 : w.cell? ⟨nb, 2, none⟩ = some (.int .i64 gen)) :
    Calls Tryz.prog 74 #[v, .func (.func 75) #[] #[.pointer (some ⟨nb, 0, none⟩)]] w fun e w' => e = .returned (.int .i64 (idxP (isTomb key gen) L)) ∧ Below w.heap.size w w' := by
  have hkb := World.block_lt_of_cell? w _ hk
  rcases h.form with ⟨rfl, rfl⟩ | ⟨g, cap, rfl, hnc, hcm, hF, hg⟩
  · have hs : L = [] := List.eq_nil_of_length_eq_zero hn
    subst hs
    go_enter Tryz.func74, Tryz.ntmps74
    go_wp2_with fail
    go_loopw [5, 8] (fun _ i wx => i = .int .i64 0 ∧ wx = w) (fun _ _ _ => 0)
    case atStart => exact ⟨rfl, rfl⟩
    case round =>
      obtain ⟨rfl, rfl⟩ := hrel
      go_wp2_with fail
      go_ret
      exact ⟨rfl, Below.refl _ _⟩
  · have HR := Lib.hid h.row
    have HN := Lib.hid hn
    have hn63 : n ≤ 9223372036854775807 := by simp only [maxLen] at hcm; omega
    have HK := Lib.hid (And.intro hk hg2)
    clear hk hg2 h
    go_enter Tryz.func74, Tryz.ntmps74
    go_wp2_with fail
    go_loopw [5, 8] (fun _ i wx => ∃ k : Nat, k ≤ n ∧ i = .int .i64 k ∧ (∀ (j : Nat) r, j < k → L[j]? = some r → isTomb key gen r = false) ∧ Below w.heap.size w wx) (fun _ i _ => n - (intOf i).toNat)
    case atStart => exact ⟨0, Nat.zero_le _, rfl, fun j r hj => by omega, Below.refl _ _⟩
    case round =>
      obtain ⟨k, hkn, rfl, hlo, hbl⟩ := hrel
      obtain ⟨wo, rfl⟩ : ∃ wo : World, wo = wr := ⟨_, rfl⟩
      have LO := Lib.hid hlo
      have BL := Lib.hid hbl
      have hz := hbl.size
      clear hlo
      by_cases hlt : k < n
      · have d1 : decide (k < n) = true := by simpa using hlt
        obtain ⟨r, hr⟩ : ∃ r, L[k]? = some r := ⟨_, List.getElem?_eq_getElem (by rw [HN.out]; exact hlt)⟩
        have kk : ∀ (j : Nat) u, (#[.int .i64 6, encStr r.1, .int .i64 r.2, .int .i64 0, .slice none 0 0, encStr [], .int .i64 1, .slice none 0 0] : Array Value)[j]? = some u → wo.cell? ⟨g, k * 8 + j, none⟩ = some u := fun j u hu => (hbl.cell (p := ⟨g, k * 8 + j, none⟩) hg).trans (HR.out.cell (tombVals_get hr hu))
        have c0 : wo.cell? ⟨g, k * 8, none⟩ = some (.int .i64 6) := kk 0 _ rfl
        have c1 : wo.cell? ⟨g, k * 8 + 1, none⟩ = some (encStr r.1) := kk 1 _ rfl
        have c2 : wo.cell? ⟨g, k * 8 + 2, none⟩ = some (.int .i64 r.2) := kk 2 _ rfl
        have c3 : wo.cell? ⟨g, k * 8 + 3, none⟩ = some (.int .i64 0) := kk 3 _ rfl
        have c4 : wo.cell? ⟨g, k * 8 + 4, none⟩ = some (.slice none 0 0) := kk 4 _ rfl
        have c5 : wo.cell? ⟨g, k * 8 + 5, none⟩ = some (encStr []) := kk 5 _ rfl
        have c6 : wo.cell? ⟨g, k * 8 + 6, none⟩ = some (.int .i64 1) := kk 6 _ rfl
        have c7 : wo.cell? ⟨g, k * 8 + 7, none⟩ = some (.slice none 0 0) := kk 7 _ rfl
        have K1 := Lib.hid ((hbl.cell (p := ⟨nb, 1, none⟩) hkb).trans HK.out.1)
        have K2 := Lib.hid ((hbl.cell (p := ⟨nb, 2, none⟩) hkb).trans HK.out.2)
        have HRR := Lib.hid hr
        clear hr hbl kk
        cases hd : isTomb key gen r with
        | true =>
          have HD := Lib.hid hd
          clear hd
          go_wp2_with (go_at_call 75; refine (tomb1_any r key gen nb _ K1.out K2.out).mono ?_; rw [HD.out]; rintro e w1 ⟨rfl, hb1⟩; have B1 := Lib.hid (BL.out.trans (hb1.mono hz)); clear hb1)
          go_ret
          exact ⟨ret_i (idxP_at HRR.out HD.out LO.out).symm, B1.out⟩
        | false =>
          have HD := Lib.hid hd
          clear hd
          go_wp2_with (go_at_call 75; refine (tomb1_any r key gen nb _ K1.out K2.out).mono ?_; rw [HD.out]; rintro e w1 ⟨rfl, hb1⟩; have B1 := Lib.hid (BL.out.trans (hb1.mono hz)); clear hb1)
          go_roundw
          case rel => exact ⟨k + 1, hlt, by go_num, fun j r' hj hr' => by
            by_cases hjk : j = k
            · subst hjk
              rw [HRR.out] at hr'
              cases hr'
              exact HD.out
            · exact LO.out j r' (by omega) hr', B1.out⟩
          case measure => simp [intOf]; omega
      · have d1 : decide (k < n) = false := by simpa using hlt
        have HE := Lib.hid (show idxP (isTomb key gen) L = -1 from idxP_none fun j y hy => LO.out j y (by have := (List.getElem?_eq_some_iff.1 hy).1; rw [HN.out] at this; omega) hy)
        clear hbl
        go_wp2_with fail
        go_ret
        exact ⟨ret_i HE.out.symm, BL.out⟩
end
end Go.Proofs.YtmkccblcmiflfaaGreat
