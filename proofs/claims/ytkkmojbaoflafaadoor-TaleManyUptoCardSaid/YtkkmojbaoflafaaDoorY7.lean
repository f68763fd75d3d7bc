/- What a word says goes into a step. No condition beyond those that each theorem states. -/
import Derived.Test.YtkkmojbaoflafaaDoorY5
import Derived.Test.YtkkmojbaoflafaaDoorG1
import Derived.Shelf.Strconv.ErrVarAll
import Derived.Ground.NamesProg
namespace Go.Proofs.YtkkmojbaoflafaaDoor
open Go.RowKit Go.Shelf

def atoiL_ren : Go.Shelf.Ren := ⟨fun | 172 => 42 | 244 => 54 | 245 => 55 | 247 => 69 | 279 => 70 | 280 => 71 | 281 => 72 | 282 => 73 | 287 => 85 | 316 => 86 | 171 => 20 | 205 => 87 | 321 => 91 | 322 => 92 | 243 => 37 | 246 => 49 | 283 => 60 | 284 => 61 | 285 => 62 | 286 => 63 | 129 => 79 | 317 => 78 | 318 => 80 | 319 => 81 | 320 => 82 | 337 => 89 | 338 => 90 | n => n, fun | 9 => 9 | 3 => 3 | 75 => 75 | 76 => 79 | 4 => 4 | 5 => 5 | 167 => 105 | 37 => 22 | 0 => 0 | 85 => 106 | 2 => 2 | 168 => 108 | 53 => 82 | 175 => 118 | 46 => 81 | 210 => 121 | 127 => 89 | 145 => 133 | 143 => 131 | 21 => 21 | 171 => 96 | 173 => 99 | 212 => 113 | 51 => 114 | 20 => 20 | 213 => 115 | 232 => 134 | 233 => 135 | 80 => 77 | n => n, fun | 15 => 2 | 16 => 3 | 17 => 1 | 18 => 6 | 19 => 7 | n => n⟩
theorem atoiL : Go.Proofs.LaysC.n172 Tryd.prog atoiL_ren := {
  mixed := by kernel_rfl
  f129 := Tryd.func79.trans (congrArg some (by kernel_rfl))
  f171 := Tryd.func20.trans (congrArg some (by kernel_rfl))
  f172 := Tryd.func42.trans (congrArg some (by kernel_rfl))
  f205 := Tryd.func87.trans (congrArg some (by kernel_rfl))
  f243 := Tryd.func37.trans (congrArg some (by kernel_rfl))
  f244 := Tryd.func54.trans (congrArg some (by kernel_rfl))
  f245 := Tryd.func55.trans (congrArg some (by kernel_rfl))
  f246 := Tryd.func49.trans (congrArg some (by kernel_rfl))
  f247 := Tryd.func69.trans (congrArg some (by kernel_rfl))
  f279 := Tryd.func70.trans (congrArg some (by kernel_rfl))
  f280 := Tryd.func71.trans (congrArg some (by kernel_rfl))
  f281 := Tryd.func72.trans (congrArg some (by kernel_rfl))
  f282 := Tryd.func73.trans (congrArg some (by kernel_rfl))
  f283 := Tryd.func60.trans (congrArg some (by kernel_rfl))
  f284 := Tryd.func61.trans (congrArg some (by kernel_rfl))
  f285 := Tryd.func62.trans (congrArg some (by kernel_rfl))
  f286 := Tryd.func63.trans (congrArg some (by kernel_rfl))
  f287 := Tryd.func85.trans (congrArg some (by kernel_rfl))
  f316 := Tryd.func86.trans (congrArg some (by kernel_rfl))
  f317 := Tryd.func78.trans (congrArg some (by kernel_rfl))
  f318 := Tryd.func80.trans (congrArg some (by kernel_rfl))
  f319 := Tryd.func81.trans (congrArg some (by kernel_rfl))
  f320 := Tryd.func82.trans (congrArg some (by kernel_rfl))
  f321 := Tryd.func91.trans (congrArg some (by kernel_rfl))
  f322 := Tryd.func92.trans (congrArg some (by kernel_rfl))
  f337 := Tryd.func89.trans (congrArg some (by kernel_rfl))
  f338 := Tryd.func90.trans (congrArg some (by kernel_rfl))
  t0 := Tryd.underlying0
  a0 := Tryd.isAgg0
  z0 := Tryd.sizeOf0
  v0 := Tryd.zeroValue0
  t2 := Tryd.underlying2
  a2 := Tryd.isAgg2
  z2 := Tryd.sizeOf2
  v2 := Tryd.zeroValue2
  t3 := Tryd.underlying3
  a3 := Tryd.isAgg3
  z3 := Tryd.sizeOf3
  v3 := Tryd.zeroValue3
  t4 := Tryd.underlying4
  a4 := Tryd.isAgg4
  z4 := Tryd.sizeOf4
  v4 := Tryd.zeroValue4
  t5 := Tryd.underlying5
  a5 := Tryd.isAgg5
  z5 := Tryd.sizeOf5
  v5 := Tryd.zeroValue5
  t9 := Tryd.underlying9
  a9 := Tryd.isAgg9
  z9 := Tryd.sizeOf9
  v9 := Tryd.zeroValue9
  t20 := Tryd.underlying20
  a20 := Tryd.isAgg20
  z20 := Tryd.sizeOf20
  v20 := Tryd.zeroValue20
  t21 := Tryd.underlying21
  a21 := Tryd.isAgg21
  z21 := Tryd.sizeOf21
  v21 := Tryd.zeroValue21
  t37 := Tryd.underlying22
  a37 := Tryd.isAgg22
  z37 := Tryd.sizeOf22
  v37 := Tryd.zeroValue22
  t46 := Tryd.underlying81
  a46 := Tryd.isAgg81
  z46 := Tryd.sizeOf81
  v46 := Tryd.zeroValue81
  t51 := Tryd.underlying114
  a51 := Tryd.isAgg114
  z51 := Tryd.sizeOf114
  v51 := Tryd.zeroValue114
  t53 := Tryd.underlying82
  a53 := Tryd.isAgg82
  z53 := Tryd.sizeOf82
  v53 := Tryd.zeroValue82
  t75 := Tryd.underlying75
  a75 := Tryd.isAgg75
  z75 := Tryd.sizeOf75
  v75 := Tryd.zeroValue75
  t76 := Tryd.underlying79
  a76 := Tryd.isAgg79
  z76 := Tryd.sizeOf79
  v76 := Tryd.zeroValue79
  t85 := Tryd.underlying106
  a85 := Tryd.isAgg106
  z85 := Tryd.sizeOf106
  v85 := Tryd.zeroValue106
  t127 := Tryd.underlying89
  a127 := Tryd.isAgg89
  z127 := Tryd.sizeOf89
  v127 := Tryd.zeroValue89
  t143 := Tryd.underlying131
  a143 := Tryd.isAgg131
  z143 := Tryd.sizeOf131
  v143 := Tryd.zeroValue131
  t145 := Tryd.underlying133
  a145 := Tryd.isAgg133
  z145 := Tryd.sizeOf133
  v145 := Tryd.zeroValue133
  t167 := Tryd.underlying105
  a167 := Tryd.isAgg105
  z167 := Tryd.sizeOf105
  v167 := Tryd.zeroValue105
  t168 := Tryd.underlying108
  a168 := Tryd.isAgg108
  z168 := Tryd.sizeOf108
  v168 := Tryd.zeroValue108
  t171 := Tryd.underlying96
  a171 := Tryd.isAgg96
  z171 := Tryd.sizeOf96
  v171 := Tryd.zeroValue96
  t173 := Tryd.underlying99
  a173 := Tryd.isAgg99
  z173 := Tryd.sizeOf99
  v173 := Tryd.zeroValue99
  t175 := Tryd.underlying118
  a175 := Tryd.isAgg118
  z175 := Tryd.sizeOf118
  v175 := Tryd.zeroValue118
  t210 := Tryd.underlying121
  a210 := Tryd.isAgg121
  z210 := Tryd.sizeOf121
  v210 := Tryd.zeroValue121
  t212 := Tryd.underlying113
  a212 := Tryd.isAgg113
  z212 := Tryd.sizeOf113
  v212 := Tryd.zeroValue113
  t213 := Tryd.underlying115
  a213 := Tryd.isAgg115
  z213 := Tryd.sizeOf115
  t232 := Tryd.underlying134
  a232 := Tryd.isAgg134
  z232 := Tryd.sizeOf134
  v232 := Tryd.zeroValue134
  t233 := Tryd.underlying135
  a233 := Tryd.isAgg135
  z233 := Tryd.sizeOf135
  v233 := Tryd.zeroValue135
  g15 := by kernel_rfl
  g16 := by kernel_rfl
  g17 := by kernel_rfl
  g18 := by kernel_rfl
  g19 := by kernel_rfl
  t80 := Tryd.underlying77
  a80 := Tryd.isAgg77
  z80 := Tryd.sizeOf77
  v80 := Tryd.zeroValue77
  i0 := by kernel_rfl
  i2 := by kernel_rfl
  i3 := by kernel_rfl
  i4 := by kernel_rfl
  i5 := by kernel_rfl
  i9 := by kernel_rfl
  i20 := by kernel_rfl
  i21 := by kernel_rfl
  i37 := by kernel_rfl
  i46 := by kernel_rfl
  i51 := by kernel_rfl
  i53 := by kernel_rfl
  i75 := by kernel_rfl
  i76 := by kernel_rfl
  i80 := by kernel_rfl
  i85 := by kernel_rfl
  i127 := by kernel_rfl
  i143 := by kernel_rfl
  i145 := by kernel_rfl
  i167 := by kernel_rfl
  i168 := by kernel_rfl
  i171 := by kernel_rfl
  i173 := by kernel_rfl
  i175 := by kernel_rfl
  i210 := by kernel_rfl
  i212 := by kernel_rfl
  i232 := by kernel_rfl
  i233 := by kernel_rfl
  m15 := by kernel_rfl
  m16 := by kernel_rfl
  m17 := by kernel_rfl
  m18 := by kernel_rfl
  m19 := by kernel_rfl
  c0 := by kernel_rfl
  c2 := by kernel_rfl
  c3 := by kernel_rfl
  c4 := by kernel_rfl
  c5 := by kernel_rfl
  c9 := by kernel_rfl
  c20 := by kernel_rfl
  c21 := by kernel_rfl
  c37 := by kernel_rfl
  c46 := by kernel_rfl
  c51 := by kernel_rfl
  c53 := by kernel_rfl
  c75 := by kernel_rfl
  c76 := by kernel_rfl
  c80 := by kernel_rfl
  c85 := by kernel_rfl
  c127 := by kernel_rfl
  c143 := by kernel_rfl
  c145 := by kernel_rfl
  c167 := by kernel_rfl
  c168 := by kernel_rfl
  c171 := by kernel_rfl
  c173 := by kernel_rfl
  c175 := by kernel_rfl
  c210 := by kernel_rfl
  c212 := by kernel_rfl
  c213 := by kernel_rfl
  c232 := by kernel_rfl
  c233 := by kernel_rfl }
def AtoiTold (s : Str) (e : Ending) : Prop := match Lib.atoiAll s with
  | .ok v => e = .returned (.tuple #[.int .i64 v, .nilIface])
  | _ => ∃ v te p, e = .returned (.tuple #[.int .i64 v, .iface te p])
theorem tAtoi (s : Str) (w : World) (hs : s.length ≤ 281474976710656) (h : Env w) : Calls Tryd.prog 42 #[strV s] w fun e w' => AtoiTold s e ∧ Below w.heap.size w w' := by
  have hsz : (⟨s.toArray⟩ : ByteArray).size ≤ 281474976710656 := by
    show s.toArray.size ≤ _
    simpa using hs
  have e0 : (⟨s.toArray⟩ : ByteArray).data.toList = s := rfl
  unfold AtoiTold
  rcases ha : Lib.atoiAll s with v | _ | _
  · refine (Any.strconv_Atoi_ok atoiL ⟨s.toArray⟩ (by omega) v (by rw [e0]; exact ha) w).mono ?_
    rintro e w' ⟨rfl, hw⟩
    refine ⟨rfl, ?_⟩
    rcases hw with rfl | ⟨t, rfl⟩
    · exact Below.refl _ _
    · exact Lib.bytesWorld_below _ _ _
  · obtain ⟨tp, p, hv⟩ := h.syn
    refine (Any.strconv_Atoi_syntax_var atoiL ⟨s.toArray⟩ hsz (by rw [e0]; exact ha) tp p w hv).mono ?_
    rintro e w' ⟨N, rfl, _, _, hb⟩
    exact ⟨⟨_, _, _, rfl⟩, hb⟩
  · obtain ⟨tp, p, hv⟩ := h.rng
    refine (Any.strconv_Atoi_range_var atoiL ⟨s.toArray⟩ hsz (by rw [e0]; exact ha) tp p w hv).mono ?_
    rintro e w' ⟨N, rfl, _, _, hb⟩
    exact ⟨⟨_, _, _, rfl⟩, hb⟩
/-- A slice of bytes of a step: nil, or a row of its own block. -/
def DataAt (w : World) (A : Option Addr) (c : Nat) (l : Str) : Prop := (A = none ∧ c = 0 ∧ l = []) ∨ ∃ g, A = some ⟨g, 0, none⟩ ∧ l.length ≤ c ∧ c ≤ maxLen ∧ RowAt w g 5 (byteVals l)
theorem DataAt.below {w w' : World} {A : Option Addr} {c : Nat} {l : Str} (h : DataAt w A c l) (hb : Below w.heap.size w w') : DataAt w' A c l := h.imp id fun ⟨g, h1, h2, h3, h4⟩ => ⟨g, h1, h2, h3, h4.of_eq (hb.block g h4.size)⟩
theorem DataAt.bytes {w : World} {A : Option Addr} {c : Nat} {l : Str} (h : DataAt w A c l) : BytesIn w A l.length l := by
  rcases h with ⟨rfl, rfl, rfl⟩ | ⟨g, rfl, _, _, h⟩
  · exact BytesIn.empty _ _
  · exact h.bytesIn
theorem DataAt.form {w : World} {A : Option Addr} {c : Nat} {l : Str} (h : DataAt w A c l) : A = none ∨ (∃ b off, A = some ⟨b, off, none⟩) := by
  rcases h with ⟨rfl, _⟩ | ⟨g, rfl, _⟩
  · exact .inl rfl
  · exact .inr ⟨_, _, rfl⟩
theorem DataAt.turn {w w' : World} {A : Option Addr} {c b : Nat} {l : Str} {cs : Array Value} (h : DataAt w A c l) (hb : Blk w b 24 cs) (hc : Chg (fun k => k = b) w w') : DataAt w' A c l :=
  h.imp id fun ⟨g, h1, h2, h3, h4⟩ => ⟨g, h1, h2, h3, h4.of_eq (hc.block g h4.size (h4.ne hb (by decide)))⟩
def stepCells (x : StepV) (A : Option Addr) (c : Nat) : Array Value := #[.int .i64 x.kind, .int .i64 x.a, .int .i64 x.b, strV x.key, .slice A x.data.length c]
/-- A step in the block b. -/
def StepAt (w : World) (b : Nat) (x : StepV) (A : Option Addr) (c : Nat) : Prop := Blk w b 24 (stepCells x A c) ∧ DataAt w A c x.data
theorem var_turn {P : Program} {w w' : World} {name : String} {vs cs : Array Value} {b : Nat} {t : TypeId} (h : w.var? P name = some vs) (hb : Blk w b t cs) (hne : vs.size ≠ cs.size) (hc : Chg (fun k => k = b) w w') : w'.var? P name = some vs := by
  unfold World.var? at *
  cases hg : P.globalNamed name with
  | none => simp [hg] at h
  | some g =>
    simp only [hg, Option.bind_some] at h ⊢
    have hlt : g < w.heap.size := by
      rcases Nat.lt_or_ge g w.heap.size with h' | h'
      · exact h'
      · rw [Array.getElem?_eq_none h'] at h
        simp at h
    rw [hc.block g hlt (fun e => by
      rw [e] at h
      unfold Blk at hb
      rw [hb] at h
      exact hne (by rw [Option.some.inj h]))]
    exact h
theorem Env.turn {w w' : World} {b : Nat} {t : TypeId} {cs : Array Value} (h : Env w) (hb : Blk w b t cs) (hc : Chg (fun k => k = b) w w') (h5 : cs.size = 5) : Env w' := by
  obtain ⟨h1, ⟨t2, p2, h2⟩, ⟨t3, p3, h3⟩⟩ := h
  exact ⟨var_turn h1 hb (by rw [h5]; simp [Lib.pow10Tab]) hc, ⟨t2, p2, var_turn h2 hb (by rw [h5]; simp) hc⟩, ⟨t3, p3, var_turn h3 hb (by rw [h5]; simp) hc⟩⟩
def Set_ (A0 : Option Addr) (b : Nat) (w : World) (o : Option StepV) (e : Ending) (w' : World) : Prop := Chg (fun k => k = b) w w' ∧ match o with
  | some y => e = .returned (.bool true) ∧ ∃ A c, StepAt w' b y A c ∧ (A = A0 ∨ ∃ g, A = some ⟨g, 0, none⟩ ∧ w.heap.size ≤ g)
  | none => e = .returned (.bool false) ∧ ∃ cs, Blk w' b 24 cs
section
set_option maxHeartbeats 8000000
set_option maxRecDepth 8000
theorem tSet107 (b : Nat) (x : StepV) (A : Option Addr) (c : Nat) (s : Str) (w : World) (h : StepAt w b x A c) (hs : s.length ≤ 140737488355328) :
    Calls Tryd.prog 27 #[.pointer (some ⟨b, 0, none⟩), .int .i32 107, strV s] w fun e w' => Set_ A b w (setT x 107 s) e w' := by
  have H := Lib.hid h
  clear h
  have hset : setT x 107 s = (unhexT s).map fun d => { x with key := d } := rfl
  rw [hset]
  clear hset
  go_enter Tryd.func27, Tryd.ntmps27
  go_wp2_with fail
  refine (tUnhex s _ hs).mono ?_
  rintro e w1 ⟨hu, hb1⟩
  have B1 := Lib.hid hb1
  have H1 := Lib.hid (show StepAt w1 b x A c from ⟨H.out.1.below hb1 H.out.1.size, H.out.2.below hb1⟩)
  have hbz : b < w1.heap.size := H1.out.1.size
  have f3 : w1.frozen? ⟨b, 3, none⟩ = false := H1.out.1.free 3
  have k3 : w1.cell? ⟨b, 3, none⟩ = some (strV x.key) := H1.out.1.cell 3
  have CB := Lib.hid (show Chg (fun k => k = b) w w1 from Chg.of_below _ hb1)
  cases ho : unhexT s with
  | none =>
    rw [ho] at hu
    obtain rfl : e = .returned (.tuple #[.slice none 0 0, .bool false]) := hu
    have hcv := run_string_of (P := Tryd.prog) (src := 22) (e := 5) (dst := 9) (c := 0) Tryd.underlying22 Tryd.underlying5 Tryd.underlying9 (BytesIn.empty w1 none) (.inl rfl)
    have HO := Lib.hid ho
    clear hb1 ho
    go_wp2_with fail
    go_ret
    rw [HO.out]
    exact ⟨CB.out.store (.inl rfl) _, rfl, _, H1.out.1.store 3 _⟩
  | some d =>
    rw [ho] at hu
    obtain ⟨g, cap, rfl, hg, hdc, hcm, hrow⟩ := hu
    have hcv := run_string_of (P := Tryd.prog) (src := 22) (e := 5) (dst := 9) (c := cap) Tryd.underlying22 Tryd.underlying5 Tryd.underlying9 hrow.bytesIn (.inr ⟨_, _, rfl⟩)
    have HO := Lib.hid ho
    clear hb1 ho hg hdc hcm hrow
    go_wp2_with fail
    go_ret
    rw [HO.out]
    have hc := CB.out.store (p := ⟨b, 3, none⟩) (.inl rfl) (strV d)
    exact ⟨hc, rfl, A, c, ⟨H1.out.1.store 3 _, H1.out.2.turn H1.out.1 ((Chg.refl (fun k => k = b) w1).store (p := ⟨b, 3, none⟩) (.inl rfl) (strV d))⟩, .inl rfl⟩
theorem tSet100 (b : Nat) (x : StepV) (A : Option Addr) (c : Nat) (s : Str) (w : World) (h : StepAt w b x A c) (hs : s.length ≤ 140737488355328) :
    Calls Tryd.prog 27 #[.pointer (some ⟨b, 0, none⟩), .int .i32 100, strV s] w fun e w' => Set_ A b w (setT x 100 s) e w' := by
  have H := Lib.hid h
  clear h
  have hset : setT x 100 s = (unhexT s).map fun d => { x with data := d } := rfl
  rw [hset]
  clear hset
  go_enter Tryd.func27, Tryd.ntmps27
  go_wp2_with fail
  refine (tUnhex s _ hs).mono ?_
  rintro e w1 ⟨hu, hb1⟩
  have B1 := Lib.hid hb1
  have H1 := Lib.hid (show StepAt w1 b x A c from ⟨H.out.1.below hb1 H.out.1.size, H.out.2.below hb1⟩)
  have hbz : b < w1.heap.size := H1.out.1.size
  have f4 : w1.frozen? ⟨b, 4, none⟩ = false := H1.out.1.free 4
  have k4 : w1.cell? ⟨b, 4, none⟩ = some (.slice A x.data.length c) := H1.out.1.cell 4
  have CB := Lib.hid (show Chg (fun k => k = b) w w1 from Chg.of_below _ hb1)
  cases ho : unhexT s with
  | none =>
    rw [ho] at hu
    obtain rfl : e = .returned (.tuple #[.slice none 0 0, .bool false]) := hu
    have HO := Lib.hid ho
    clear hb1 ho
    go_wp2_with fail
    go_ret
    rw [HO.out]
    exact ⟨CB.out.store (.inl rfl) _, rfl, _, H1.out.1.store 4 _⟩
  | some d =>
    rw [ho] at hu
    obtain ⟨g, cap, rfl, hg, hdc, hcm, hrow⟩ := hu
    have RW := Lib.hid hrow
    have GZ := Lib.hid hg
    have DC := Lib.hid hdc
    have CM := Lib.hid hcm
    have HO := Lib.hid ho
    clear hb1 ho hg hdc hcm hrow
    go_wp2_with fail
    go_ret
    rw [HO.out]
    have hc := CB.out.store (p := ⟨b, 4, none⟩) (.inl rfl) (.slice (some ⟨g, 0, none⟩) d.length cap)
    exact ⟨hc, rfl, some ⟨g, 0, none⟩, cap, ⟨H1.out.1.store 4 _, .inr ⟨g, rfl, DC.out, CM.out, RW.out.of_eq (((Chg.refl (fun k => k = b) w1).store (p := ⟨b, 4, none⟩) (.inl rfl) (.slice (some ⟨g, 0, none⟩) d.length cap)).block g RW.out.size (RW.out.ne H1.out.1 (by decide)))⟩⟩, .inr ⟨g, rfl, GZ.out⟩⟩
theorem tSet97 (b : Nat) (x : StepV) (A : Option Addr) (c : Nat) (s : Str) (w : World) (h : StepAt w b x A c) (hs : s.length ≤ 140737488355328) (he : Env w) :
    Calls Tryd.prog 27 #[.pointer (some ⟨b, 0, none⟩), .int .i32 97, strV s] w fun e w' => Set_ A b w (setT x 97 s) e w' := by
  have H := Lib.hid h
  have HE := Lib.hid he
  clear h he
  have hset : setT x 97 s = (numT s).map fun d => { x with a := d } := rfl
  rw [hset]
  clear hset
  go_enter Tryd.func27, Tryd.ntmps27
  go_wp2_with fail
  refine (tAtoi s _ (by omega) HE.out).mono ?_
  rintro e w1 ⟨hu, hb1⟩
  have H1 := Lib.hid (show StepAt w1 b x A c from ⟨H.out.1.below hb1 H.out.1.size, H.out.2.below hb1⟩)
  have E1 := Lib.hid (HE.out.below hb1)
  have hbz : b < w1.heap.size := H1.out.1.size
  have f1 : w1.frozen? ⟨b, 1, none⟩ = false := H1.out.1.free 1
  have k1 : w1.cell? ⟨b, 1, none⟩ = some (.int .i64 x.a) := H1.out.1.cell 1
  have CB := Lib.hid (show Chg (fun k => k = b) w w1 from Chg.of_below _ hb1)
  unfold AtoiTold at hu
  have hno : (∀ v, Lib.atoiAll s ≠ .ok v) → numT s = none := fun h => by
    unfold numT
    split
    · rename_i v hv
      exact absurd hv (h v)
    · rfl
  rcases ha : Lib.atoiAll s with v | _ | _
  · rw [ha] at hu
    obtain rfl : e = .returned (.tuple #[.int .i64 v, .nilIface]) := hu
    have hw := Lib.atoiAll_bounds ha
    have hn : numT s = if Lib.itoa v = s then some v else none := by unfold numT; rw [ha]
    have HN := Lib.hid hn
    have H2 := Lib.hid (H1.out.1.store 1 (.int .i64 v))
    have C2 := Lib.hid ((Chg.refl (fun k => k = b) w1).store (p := ⟨b, 1, none⟩) (.inl rfl) (.int .i64 v))
    have E2 := Lib.hid (show Env (w1.setCell ⟨b, 1, none⟩ (.int .i64 v)) from E1.out.turn H1.out.1 C2.out rfl)
    by_cases hi : Lib.itoa v = s
    · have HI := Lib.hid hi
      clear hb1 ha hn hno
      go_wp2_with (go_at_call 20; refine (tItoa v _ hw E2.out).mono ?_; rintro e w3 ⟨rfl, hb3⟩; have B3 := Lib.hid hb3; clear hb3)
      go_ret
      have C3 := Chg.of_below (fun k => k = b) B3.out
      rw [HN.out, if_pos HI.out]
      refine ⟨(CB.out.trans C2.out).trans C3, by simp_all, A, c, ⟨H2.out.below B3.out H2.out.size, ?_⟩, .inl rfl⟩
      exact (H1.out.2.turn H1.out.1 C2.out).below B3.out
    · have HI := Lib.hid hi
      clear hb1 ha hn hno
      go_wp2_with (go_at_call 20; refine (tItoa v _ hw E2.out).mono ?_; rintro e w3 ⟨rfl, hb3⟩; have B3 := Lib.hid hb3; clear hb3)
      go_ret
      have C3 := Chg.of_below (fun k => k = b) B3.out
      rw [HN.out, if_neg HI.out]
      exact ⟨(CB.out.trans C2.out).trans C3, by simp_all, _, H2.out.below B3.out H2.out.size⟩
  all_goals
    rw [ha] at hu
    have HN := Lib.hid (hno (fun v h => by rw [ha] at h; cases h))
    obtain ⟨v, te, p, rfl⟩ := hu
    clear hb1 ha hno
    go_wp2_with fail
    go_ret
    rw [HN.out]
    exact ⟨CB.out.store (.inl rfl) _, by simp, _, H1.out.1.store 1 _⟩
theorem tSet98 (b : Nat) (x : StepV) (A : Option Addr) (c : Nat) (s : Str) (w : World) (h : StepAt w b x A c) (hs : s.length ≤ 140737488355328) (he : Env w) :
    Calls Tryd.prog 27 #[.pointer (some ⟨b, 0, none⟩), .int .i32 98, strV s] w fun e w' => Set_ A b w (setT x 98 s) e w' := by
  have H := Lib.hid h
  have HE := Lib.hid he
  clear h he
  have hset : setT x 98 s = (numT s).map fun d => { x with b := d } := rfl
  rw [hset]
  clear hset
  go_enter Tryd.func27, Tryd.ntmps27
  go_wp2_with fail
  refine (tAtoi s _ (by omega) HE.out).mono ?_
  rintro e w1 ⟨hu, hb1⟩
  have H1 := Lib.hid (show StepAt w1 b x A c from ⟨H.out.1.below hb1 H.out.1.size, H.out.2.below hb1⟩)
  have E1 := Lib.hid (HE.out.below hb1)
  have hbz : b < w1.heap.size := H1.out.1.size
  have f1 : w1.frozen? ⟨b, 2, none⟩ = false := H1.out.1.free 2
  have k1 : w1.cell? ⟨b, 2, none⟩ = some (.int .i64 x.b) := H1.out.1.cell 2
  have CB := Lib.hid (show Chg (fun k => k = b) w w1 from Chg.of_below _ hb1)
  unfold AtoiTold at hu
  have hno : (∀ v, Lib.atoiAll s ≠ .ok v) → numT s = none := fun h => by
    unfold numT
    split
    · rename_i v hv
      exact absurd hv (h v)
    · rfl
  rcases ha : Lib.atoiAll s with v | _ | _
  · rw [ha] at hu
    obtain rfl : e = .returned (.tuple #[.int .i64 v, .nilIface]) := hu
    have hw := Lib.atoiAll_bounds ha
    have hn : numT s = if Lib.itoa v = s then some v else none := by unfold numT; rw [ha]
    have HN := Lib.hid hn
    have H2 := Lib.hid (H1.out.1.store 2 (.int .i64 v))
    have C2 := Lib.hid ((Chg.refl (fun k => k = b) w1).store (p := ⟨b, 2, none⟩) (.inl rfl) (.int .i64 v))
    have E2 := Lib.hid (show Env (w1.setCell ⟨b, 2, none⟩ (.int .i64 v)) from E1.out.turn H1.out.1 C2.out rfl)
    by_cases hi : Lib.itoa v = s
    · have HI := Lib.hid hi
      clear hb1 ha hn hno
      go_wp2_with (go_at_call 20; refine (tItoa v _ hw E2.out).mono ?_; rintro e w3 ⟨rfl, hb3⟩; have B3 := Lib.hid hb3; clear hb3)
      go_ret
      have C3 := Chg.of_below (fun k => k = b) B3.out
      rw [HN.out, if_pos HI.out]
      refine ⟨(CB.out.trans C2.out).trans C3, by simp_all, A, c, ⟨H2.out.below B3.out H2.out.size, ?_⟩, .inl rfl⟩
      exact (H1.out.2.turn H1.out.1 C2.out).below B3.out
    · have HI := Lib.hid hi
      clear hb1 ha hn hno
      go_wp2_with (go_at_call 20; refine (tItoa v _ hw E2.out).mono ?_; rintro e w3 ⟨rfl, hb3⟩; have B3 := Lib.hid hb3; clear hb3)
      go_ret
      have C3 := Chg.of_below (fun k => k = b) B3.out
      rw [HN.out, if_neg HI.out]
      exact ⟨(CB.out.trans C2.out).trans C3, by simp_all, _, H2.out.below B3.out H2.out.size⟩
  all_goals
    rw [ha] at hu
    have HN := Lib.hid (hno (fun v h => by rw [ha] at h; cases h))
    obtain ⟨v, te, p, rfl⟩ := hu
    clear hb1 ha hno
    go_wp2_with fail
    go_ret
    rw [HN.out]
    exact ⟨CB.out.store (.inl rfl) _, by simp, _, H1.out.1.store 2 _⟩
end
end Go.Proofs.YtkkmojbaoflafaaDoor
