/- The document's texts as bytes, and all of its model. No condition beyond those that each theorem states. -/
import Derived.Test.YtgkgieemdjbhpaaRA5
import Derived.Test.YtgkgieemdjbhpaaRA6
import Derived.Laws.IdiomStrings
namespace Go.Proofs.Ytgkgieemdjbhpaa
open Go.RowKit Go.Maps

theorem conv_back (w : World) (s : List UInt8) : ∃ W' k, (convert 9 29 (encStr s)).run Try.prog w = .ok (.slice (some ⟨w.heap.size, 0, none⟩) s.length k) W' ∧ BytesIn W' (some ⟨w.heap.size, 0, none⟩) s.length s ∧ Below w.heap.size w W' := by
  have h := run_bytes_of_string (P := Try.prog) w 9 29 5 ⟨s.toArray⟩ Try.underlying9 Try.underlying29 Try.underlying5
  refine ⟨_, _, h, ⟨rfl, .inr ⟨_, 0, rfl, by simp, fun i u hu => ?_⟩⟩, ?_⟩
  · have hi := (List.getElem?_eq_some_iff.1 hu).1
    rw [Nat.zero_add, cell_of_row _ w.heap.size i _ 5 _ (heap_alloc_new w.drew _)]
    have hsz : i < s.length := hi
    simp only [bytesRow]
    rw [Array.getElem?_append_left (by simpa using hsz)]
    have hu2 : s[i]? = some u := hu
    simp [hu2]
  · exact (show Below w.heap.size w w.drew from below_drew1).alloc (Nat.le_refl w.heap.size) _
set_option maxRecDepth 100000 in
set_option maxHeartbeats 4000000 in
theorem r06Text (A : Option Addr) (n c : Nat) (l s : List UInt8) (w : World) (hf : Form A n c) (h : BytesIn w A n l) (hm : n ≤ 1000000) (hs : s.length < 16384) :
    Calls Try.prog 31 #[.slice A n c, encStr s] w fun e w' => ∃ B' m' c', e = .returned (.slice B' m' c') ∧ Bys w' w.heap.size B' m' c' (l ++ textW s) ∧ Below w.heap.size w w' := by
  have H := Lib.hid h
  have HF := Lib.hid hf
  obtain ⟨i0, hi0, hz0, hz1, hz2⟩ := info_parts byte_info
  have hsz : (⟨s.toArray⟩ : ByteArray).size = s.length := by simp [ByteArray.size]
  have hs63 : s.length ≤ 9223372036854775807 := by omega
  clear h hf
  go_enter Try.func31, Try.ntmps31
  go_wp2_with (first
    | (go_at_call 39; refine (r06Put A n c l s.length _ HF.out H.out hm hs).mono ?_; rintro e w1 ⟨B, m1, k, rfl, hB, hb1⟩; have hm1 : m1 ≤ n + 2 := (by have h1 := hB.len; have h2 := H.out.1; have h3 := numW_len s.length; rw [List.length_append] at h1; split at h3 <;> omega); have B1 := Lib.hid hB; have HB1 := Lib.hid hb1; have hz := hb1.size; obtain ⟨w2, k2, hrun, hbi, hb2⟩ := conv_back w1 s; have BI := Lib.hid hbi; have HB2 := Lib.hid hb2; have B2 := Lib.hid (hB.of_eq (w' := w2) (fun g hg => hb2.block g (hB.ge hg).2)); have hz3 : w.heap.size ≤ w2.heap.size := Nat.le_trans hz hb2.size; clear hB hb1 hbi hb2)
    | (at_builtin
       go_loud (refine wpList_append_src _ rfl (.tmp 8) (.tmp 10) 29 rfl w.heap.size 5 i0 _ 1 1 Try.underlying29 hi0 hz0 hz1 hz2 rfl (by omega) _ m1 _ rfl B2.out (some ⟨w1.heap.size, 0, none⟩) s.length k2 (byteVals s) rfl (by rw [byteVals_length, Nat.mul_one]) (fun e => by cases e) BI.out.src (byteVals_one s) (by simp only [maxLen]; omega) (by omega) hz3 ?_)
       intro v w3 hown hgr hat
       have OW := Lib.hid hown
       have GR := Lib.hid hgr
       clear hown hgr hat))
  go_ret
  have hbb : Below w.heap.size w w3 := (HB1.out.trans (HB2.out.mono hz)).grown GR.out hz3 (fun q hq => B2.out.own_ge hq)
  have h2 := OW.out
  rw [← byteVals_append, List.append_assoc] at h2
  rcases h2.2 with ⟨rfl, h0⟩ | ⟨g, cap, cur, rfl, _⟩
  · rw [h0] at h2
    exact ⟨none, 0, 0, rfl, h2, hbb⟩
  · exact ⟨_, _, cap, rfl, h2, hbb⟩
end Go.Proofs.Ytgkgieemdjbhpaa
