/- The library's tables in the world; numbers as words; words joined; a text's bytes. No condition beyond those that each theorem states. -/
import Derived.Test.YtkkmojbaoflafaaDoorY3
import Derived.Shelf.Strconv.Itoa4
import Derived.Shelf.Strings.OnBuilder
import Derived.Ground.NamesProg
import Derived.Lib.AppendIntMem
namespace Go.Proofs.YtkkmojbaoflafaaDoor
open Go.RowKit Go.Shelf

def itoaL_ren : Go.Shelf.Ren := ⟨fun | 171 => 20 | 243 => 37 | 246 => 49 | 283 => 60 | 284 => 61 | 285 => 62 | 286 => 63 | 129 => 79 | 317 => 78 | 318 => 80 | 319 => 81 | 320 => 82 | 337 => 89 | 338 => 90 | n => n, fun | 20 => 20 | 3 => 3 | 9 => 9 | 2 => 2 | 4 => 4 | 171 => 96 | 0 => 0 | 53 => 82 | 37 => 22 | 5 => 5 | 173 => 99 | 212 => 113 | 51 => 114 | 213 => 115 | 46 => 81 | 232 => 134 | 233 => 135 | n => n, fun | 17 => 1 | 18 => 6 | 19 => 7 | n => n⟩
theorem itoaL : Go.Proofs.LaysM.n171 Tryd.prog itoaL_ren := {
  mixed := by kernel_rfl
  f129 := Tryd.func79.trans (congrArg some (by kernel_rfl))
  f171 := Tryd.func20.trans (congrArg some (by kernel_rfl))
  f243 := Tryd.func37.trans (congrArg some (by kernel_rfl))
  f246 := Tryd.func49.trans (congrArg some (by kernel_rfl))
  f283 := Tryd.func60.trans (congrArg some (by kernel_rfl))
  f284 := Tryd.func61.trans (congrArg some (by kernel_rfl))
  f285 := Tryd.func62.trans (congrArg some (by kernel_rfl))
  f286 := Tryd.func63.trans (congrArg some (by kernel_rfl))
  f317 := Tryd.func78.trans (congrArg some (by kernel_rfl))
  f318 := Tryd.func80.trans (congrArg some (by kernel_rfl))
  f319 := Tryd.func81.trans (congrArg some (by kernel_rfl))
  f320 := Tryd.func82.trans (congrArg some (by kernel_rfl))
  f337 := Tryd.func89.trans (congrArg some (by kernel_rfl))
  f338 := Tryd.func90.trans (congrArg some (by kernel_rfl))
  t0 := Tryd.underlying0
  a0 := Tryd.isAgg0
  z0 := Tryd.sizeOf0
  v0 := Tryd.zeroValue0
  t2 := Tryd.underlying2
  a2 := Tryd.isAgg2
  z2 := Tryd.sizeOf2
  v2 := Tryd.zeroValue2
  t3 := Tryd.underlying3
  a3 := Tryd.isAgg3
  z3 := Tryd.sizeOf3
  v3 := Tryd.zeroValue3
  t4 := Tryd.underlying4
  a4 := Tryd.isAgg4
  z4 := Tryd.sizeOf4
  v4 := Tryd.zeroValue4
  t5 := Tryd.underlying5
  a5 := Tryd.isAgg5
  z5 := Tryd.sizeOf5
  v5 := Tryd.zeroValue5
  t9 := Tryd.underlying9
  a9 := Tryd.isAgg9
  z9 := Tryd.sizeOf9
  v9 := Tryd.zeroValue9
  t20 := Tryd.underlying20
  a20 := Tryd.isAgg20
  z20 := Tryd.sizeOf20
  v20 := Tryd.zeroValue20
  t37 := Tryd.underlying22
  a37 := Tryd.isAgg22
  z37 := Tryd.sizeOf22
  v37 := Tryd.zeroValue22
  t46 := Tryd.underlying81
  a46 := Tryd.isAgg81
  z46 := Tryd.sizeOf81
  v46 := Tryd.zeroValue81
  t51 := Tryd.underlying114
  a51 := Tryd.isAgg114
  z51 := Tryd.sizeOf114
  v51 := Tryd.zeroValue114
  t53 := Tryd.underlying82
  a53 := Tryd.isAgg82
  z53 := Tryd.sizeOf82
  v53 := Tryd.zeroValue82
  t171 := Tryd.underlying96
  a171 := Tryd.isAgg96
  z171 := Tryd.sizeOf96
  v171 := Tryd.zeroValue96
  t173 := Tryd.underlying99
  a173 := Tryd.isAgg99
  z173 := Tryd.sizeOf99
  v173 := Tryd.zeroValue99
  t212 := Tryd.underlying113
  a212 := Tryd.isAgg113
  z212 := Tryd.sizeOf113
  v212 := Tryd.zeroValue113
  t213 := Tryd.underlying115
  a213 := Tryd.isAgg115
  z213 := Tryd.sizeOf115
  t232 := Tryd.underlying134
  a232 := Tryd.isAgg134
  z232 := Tryd.sizeOf134
  v232 := Tryd.zeroValue134
  t233 := Tryd.underlying135
  a233 := Tryd.isAgg135
  z233 := Tryd.sizeOf135
  v233 := Tryd.zeroValue135
  g17 := by kernel_rfl
  g18 := by kernel_rfl
  g19 := by kernel_rfl
  i0 := by kernel_rfl
  i2 := by kernel_rfl
  i3 := by kernel_rfl
  i4 := by kernel_rfl
  i5 := by kernel_rfl
  i9 := by kernel_rfl
  i20 := by kernel_rfl
  i37 := by kernel_rfl
  i46 := by kernel_rfl
  i51 := by kernel_rfl
  i53 := by kernel_rfl
  i171 := by kernel_rfl
  i173 := by kernel_rfl
  i212 := by kernel_rfl
  i232 := by kernel_rfl
  i233 := by kernel_rfl
  m17 := by kernel_rfl
  m18 := by kernel_rfl
  m19 := by kernel_rfl }
def joinL_ren : Go.Shelf.Ren := ⟨fun | 156 => 21 | 165 => 38 | 166 => 39 | 169 => 36 | 240 => 48 | 241 => 50 | 276 => 59 | 277 => 64 | n => n, fun | 20 => 20 | 31 => 50 | 9 => 9 | 3 => 3 | 4 => 4 | 0 => 0 | 72 => 73 | 76 => 79 | 70 => 71 | 37 => 22 | 75 => 75 | 127 => 89 | 164 => 94 | 5 => 5 | 80 => 77 | n => n, fun | n => n⟩
theorem joinL : Go.Proofs.Lays.n156 Tryd.prog joinL_ren := {
  mixed := by kernel_rfl
  f156 := Tryd.func21.trans (congrArg some (by kernel_rfl))
  f165 := Tryd.func38.trans (congrArg some (by kernel_rfl))
  f166 := Tryd.func39.trans (congrArg some (by kernel_rfl))
  f169 := Tryd.func36.trans (congrArg some (by kernel_rfl))
  f240 := Tryd.func48.trans (congrArg some (by kernel_rfl))
  f241 := Tryd.func50.trans (congrArg some (by kernel_rfl))
  f276 := Tryd.func59.trans (congrArg some (by kernel_rfl))
  f277 := Tryd.func64.trans (congrArg some (by kernel_rfl))
  t0 := Tryd.underlying0
  a0 := Tryd.isAgg0
  z0 := Tryd.sizeOf0
  v0 := Tryd.zeroValue0
  t3 := Tryd.underlying3
  a3 := Tryd.isAgg3
  z3 := Tryd.sizeOf3
  v3 := Tryd.zeroValue3
  t4 := Tryd.underlying4
  a4 := Tryd.isAgg4
  z4 := Tryd.sizeOf4
  v4 := Tryd.zeroValue4
  t9 := Tryd.underlying9
  a9 := Tryd.isAgg9
  z9 := Tryd.sizeOf9
  v9 := Tryd.zeroValue9
  t20 := Tryd.underlying20
  a20 := Tryd.isAgg20
  z20 := Tryd.sizeOf20
  v20 := Tryd.zeroValue20
  t31 := Tryd.underlying50
  a31 := Tryd.isAgg50
  z31 := Tryd.sizeOf50
  v31 := Tryd.zeroValue50
  t37 := Tryd.underlying22
  a37 := Tryd.isAgg22
  z37 := Tryd.sizeOf22
  v37 := Tryd.zeroValue22
  t70 := Tryd.underlying71
  a70 := Tryd.isAgg71
  z70 := Tryd.sizeOf71
  v70 := Tryd.zeroValue71
  t72 := Tryd.underlying73
  a72 := Tryd.isAgg73
  z72 := Tryd.sizeOf73
  v72 := Tryd.zeroValue73
  t75 := Tryd.underlying75
  a75 := Tryd.isAgg75
  z75 := Tryd.sizeOf75
  v75 := Tryd.zeroValue75
  t76 := Tryd.underlying79
  a76 := Tryd.isAgg79
  z76 := Tryd.sizeOf79
  v76 := Tryd.zeroValue79
  t127 := Tryd.underlying89
  a127 := Tryd.isAgg89
  z127 := Tryd.sizeOf89
  v127 := Tryd.zeroValue89
  t164 := Tryd.underlying94
  a164 := Tryd.isAgg94
  z164 := Tryd.sizeOf94
  v164 := Tryd.zeroValue94 }
theorem joinX : Builder.Extra Tryd.prog joinL_ren := {
  sizeBuilder := by kernel_rfl
  liesBuilder := by kernel_rfl
  t5 := Tryd.underlying5
  a5 := Tryd.isAgg5
  z5 := Tryd.sizeOf5
  v5 := Tryd.zeroValue5
  infoByte := by kernel_rfl
  cellsByte := by kernel_rfl
  sizeByte := by kernel_rfl
  neB5 := by decide }
theorem var_below {P : Program} {w w' : World} {name : String} {vs : Array Value} (h : w.var? P name = some vs) (hb : Below w.heap.size w w') : w'.var? P name = some vs := by
  unfold World.var? at *
  cases hg : P.globalNamed name with
  | none => simp [hg] at h
  | some g =>
    simp only [hg, Option.bind_some] at h ⊢
    have hlt : g < w.heap.size := by
      rcases Nat.lt_or_ge g w.heap.size with h' | h'
      · exact h'
      · rw [Array.getElem?_eq_none h'] at h
        simp at h
    rw [hb.block g hlt]
    exact h
/-- What the library's tables and errors hold. -/
structure Env (w : World) : Prop where
  pow : Lib.TabIs Tryd.prog w "internal/strconv.uint64pow10" .u64 Lib.pow10Tab
  syn : ∃ tp p, w.var? Tryd.prog "strconv.ErrSyntax" = some #[.iface tp p]
  rng : ∃ tp p, w.var? Tryd.prog "strconv.ErrRange" = some #[.iface tp p]
theorem Env.below {w w' : World} (h : Env w) (hb : Below w.heap.size w w') : Env w' := by
  obtain ⟨h1, ⟨t2, p2, h2⟩, ⟨t3, p3, h3⟩⟩ := h
  exact ⟨var_below h1 hb, ⟨t2, p2, var_below h2 hb⟩, ⟨t3, p3, var_below h3 hb⟩⟩
theorem Env.from_ {B : Nat} {w w' : World} (h : Env w) (hB : w.heap.size ≤ B) (hb : Below B w w') : Env w' := h.below (hb.mono hB)
theorem tItoa (n : Int) (w : World) (hn : Wf64 n) (h : Env w) : Calls Tryd.prog 20 #[.int .i64 n] w fun e w' => e = .returned (strV (Lib.itoa n)) ∧ Below w.heap.size w w' := by
  refine (Any.strconv_Itoa itoaL n hn.1 hn.2 w h.pow).mono ?_
  rintro e w' ⟨rfl, k, os, rfl⟩
  exact ⟨rfl, Lib.below_grow _ w (Nat.le_refl _) k os⟩
theorem join_list (x : Str) (r : List Str) : Lib.join (x :: r) [32] = joinT 32 (x :: r) := by
  rw [Lib.join_cons]
  induction r generalizing x with
  | nil => simp [Lib.joinTail, joinT]
  | cons y r ih =>
    rw [joinT, ← ih]
    simp [Lib.joinTail]
theorem tJoin (g c : Nat) (x : Str) (r : List Str) (w : World) (hcells : ∀ (j : Nat) y, (x :: r)[j]? = some y → w.cell? ⟨g, j, none⟩ = some (strV y)) (hg : g < w.heap.size) (hc : r.length + 1 ≤ c) (hN : r.length ≤ 1000) (hlen : (joinT 32 (x :: r)).length ≤ 140737488355328) :
    Calls Tryd.prog 21 #[.slice (some ⟨g, 0, none⟩) (r.length + 1) c, .string ⟨#[32]⟩] w fun e w' => e = .returned (strV (joinT 32 (x :: r))) ∧ Below w.heap.size w w' := by
  have e1 : ((x :: r).map fun l => (⟨l.toArray⟩ : ByteArray)).map (·.data.toList) = x :: r := by
    rw [List.map_map]
    conv => rhs; rw [← List.map_id (x :: r)]
    exact List.map_congr_left fun l _ => rfl
  have h := Any.strings_Join joinL joinX g 0 c ((x :: r).map fun l => ⟨l.toArray⟩) ⟨#[32]⟩ w (fun j y hy => by
    rw [List.getElem?_map] at hy
    cases hj : (x :: r)[j]? with
    | none => rw [hj] at hy; cases hy
    | some z =>
      rw [hj] at hy
      injection hy with hy
      subst hy
      rw [Nat.zero_add]
      exact hcells j z hj) hg (by simp; omega) (by simpa using hc) (by rw [e1]; show (Lib.join (x :: r) [32]).length ≤ _; rw [join_list]; exact hlen)
  rw [e1, List.length_map, List.length_cons] at h
  refine h.mono ?_
  rintro e w' ⟨rfl, hb⟩
  refine ⟨?_, hb⟩
  show Ending.returned (.string ⟨(Lib.join (x :: r) [32]).toArray⟩) = _
  rw [join_list]
/-- '[]byte(s)'. -/
theorem below_drew2 {w : World} : Below w.heap.size w w.drew := ⟨rfl, rfl, rfl, Nat.le_refl _, fun _ _ => rfl⟩
theorem conv_bytes (w : World) (s : Str) : ∃ W' k, (convert 9 22 (strV s)).run Tryd.prog w = .ok (.slice (some ⟨w.heap.size, 0, none⟩) s.length k) W' ∧ BytesIn W' (some ⟨w.heap.size, 0, none⟩) s.length s ∧ Below w.heap.size w W' ∧ w.heap.size < W'.heap.size := by
  have h := run_bytes_of_string (P := Tryd.prog) w 9 22 5 ⟨s.toArray⟩ Tryd.underlying9 Tryd.underlying22 Tryd.underlying5
  refine ⟨_, _, h, ⟨rfl, .inr ⟨_, 0, rfl, ?_, fun i u hu => ?_⟩⟩, ?_, ?_⟩
  · show w.drew.heap.size < (w.drew.alloc _).heap.size
    simp
  · rw [Nat.zero_add]
    refine (cell_of_row _ w.drew.heap.size i _ _ _ (heap_alloc_new w.drew _)).trans ?_
    unfold bytesRow
    have hi : i < s.length := (List.getElem?_eq_some_iff.1 hu).1
    rw [Array.getElem?_append_left (by simpa using hi)]
    simp [hu]
  · exact below_drew2.alloc (Nat.le_refl w.heap.size) _
  · show w.drew.heap.size < (w.drew.alloc _).heap.size
    simp
end Go.Proofs.YtkkmojbaoflafaaDoor
