/- Texts in small letters: the program's, and the document's. -/
import Derived.Test.YtimcjkkbooinbaaGb
import Derived.OwnWalk
namespace Go.Proofs.Ytimcjkkbooinbaa
open Go.RowKit

/-- Bytes in a block of the call's own. -/
structure Row8 (w : World) (g : Nat) (l : List UInt8) : Prop where
  c : ∀ i (h : i < l.length), w.cell? ⟨g, i, none⟩ = some (.int .u8 (l[i].toNat : Int))
  f : ∀ i, i < l.length → w.frozen? ⟨g, i, none⟩ = false

theorem Row8.set {w : World} {g : Nat} {l : List UInt8} (h : Row8 w g l) {j : Nat} (hj : j < l.length) (c : UInt8) : Row8 (w.setCell ⟨g, j, none⟩ (.int .u8 (c.toNat : Int))) g (l.set j c) := by
  refine ⟨fun i hi => ?_, fun i hi => ?_⟩
  · rw [List.length_set] at hi
    by_cases e : j = i
    · subst e
      rw [List.getElem_set_self]
      exact World.cell?_setCell_same' _ _ _ (by rw [h.c j hj]; rfl)
    · rw [World.cell?_setCell_other (h := fun h => absurd (congrArg Addr.off h) e), List.getElem_set_ne e]
      exact h.c i hi
  · rw [List.length_set] at hi
    rw [World.frozen?_setCell]
    exact h.f i hi

theorem row8_made (w : World) (s : ByteArray) (cap : Nat) : Row8 (w.alloc (.cells (bytesRow s cap) 5 ((bytesRow s cap).size, (bytesRow s cap).size + 1))) w.heap.size s.data.toList := by
  have hl : s.data.toList.length ≤ (bytesRow s cap).size := by simp [bytesRow]
  have hh := heap_alloc_new w (.cells (bytesRow s cap) 5 ((bytesRow s cap).size, (bytesRow s cap).size + 1))
  refine ⟨fun i hi => ?_, fun i hi => ?_⟩
  · simp only [World.cell?, hh]
    have hi2 : i < s.data.size := by simpa using hi
    have hi3 : i < s.size := hi2
    simp [bytesRow, Array.getElem?_append, hi2, hi3]
  · simp only [World.frozen?, hh]
    have : ¬ (bytesRow s cap).size ≤ i := by omega
    simp [this]

theorem low_set (l : List UInt8) (k : Nat) (hk : k < l.length) : ((l.take k).map lowC ++ l.drop k).set k (lowC l[k]) = (l.take (k + 1)).map lowC ++ l.drop (k + 1) := by
  have h1 : ((l.take k).map lowC).length = k := by rw [List.length_map, List.length_take]; omega
  rw [List.set_append_right _ _ (by omega), h1, Nat.sub_self, List.drop_eq_getElem_cons hk, List.set_cons_zero, List.take_succ_eq_append_getElem hk, List.map_append]
  simp

set_option maxHeartbeats 1000000 in
theorem each_low (s : ByteArray) (w : World) (hs : s.size ≤ 1000000) :
    Calls Try.prog 50 #[.string s, .func (.func 51) #[] #[]] w fun e w' => e = .returned (.string (lowB s)) ∧ Below w.heap.size w w' := by
  have hcv := run_bytes_of_string (P := Try.prog) w 9 48 5 s Try.underlying9 Try.underlying48 Try.underlying5
  have hrow := row8_made w.drew s (grownCap w s.size 0 5)
  have hb : Below w.heap.size w (w.drew.alloc (.cells (bytesRow s (grownCap w s.size 0 5)) 5 ((bytesRow s (grownCap w s.size 0 5)).size, (bytesRow s (grownCap w s.size 0 5)).size + 1))) := ((Below.refl _ _).drew).alloc (Nat.le_refl _) _
  generalize w.drew.alloc (.cells (bytesRow s (grownCap w s.size 0 5)) 5 ((bytesRow s (grownCap w s.size 0 5)).size, (bytesRow s (grownCap w s.size 0 5)).size + 1)) = W at hcv hrow hb
  generalize grownCap w s.size 0 5 = cap at hcv
  obtain ⟨l, hl⟩ : ∃ l, s.data.toList = l := ⟨_, rfl⟩
  have hn : l.length = s.size := by rw [← hl, Array.length_toList]; rfl
  rw [show w.drew.heap.size = w.heap.size from rfl, hl] at hrow
  have HL := Lib.hid hl
  have HN := Lib.hid hn
  have HR := Lib.hid hrow
  have HB := Lib.hid hb
  obtain ⟨n, hsn⟩ : ∃ n, s.size = n := ⟨_, rfl⟩
  rw [hsn] at hcv hs HN
  have HSN := Lib.hid hsn
  clear hl hn hrow hb hsn
  go_enter Try.func50, Try.ntmps50
  go_wp2_with fail
  clear hcv
  go_loopw [12] (fun i wr => ∃ k : Nat, i = .int .i64 k ∧ k ≤ n ∧ Hid (Row8 wr w.heap.size ((l.take k).map lowC ++ l.drop k)) ∧ Hid (Below w.heap.size w wr)) (fun i _ => n - (intOf i).toNat)
  case atStart => exact ⟨0, rfl, by omega, by simpa using HR, HB⟩
  case round =>
    obtain ⟨k, rfl, hk, HRk, HBk⟩ := hrel
    by_cases hlt : k < n
    · have hkl : k < l.length := by have := HN.out; omega
      have hll : ((l.take k).map lowC ++ l.drop k).length = n := by have := HN.out; simp; omega
      have hck := HRk.out.c k (by omega)
      have hfk := HRk.out.f k (by omega)
      have hkk : ((l.take k).map lowC ++ l.drop k)[k]'(by omega) = l[k] := by
        rw [List.getElem_append_right (by simp; omega)]; simp [Nat.min_eq_left (Nat.le_of_lt hkl)]
      rw [hkk] at hck
      have HSET := Lib.hid (low_set l k hkl)
      have HNX := Lib.hid (HRk.out.set (j := k) (by omega) (lowC l[k]))
      generalize l[k] = c at hck HSET HNX
      clear hkk hll hkl
      go_wp2_with fail
      refine (lower1_any _ c wr).mono ?_
      rintro e w' ⟨rfl, hw⟩
      rw [hw]
      clear hw
      go_wp2_with fail
      go_roundw
      case rel => exact ⟨k + 1, by go_num, by omega, by rw [← HSET.out]; exact HNX, Lib.hid (HBk.out.setCell (p := ⟨w.heap.size, k, none⟩) (Nat.le_refl _) _)⟩
      case measure => simp [intOf]; omega
    · obtain rfl : k = n := by omega
      have hR := HRk.out
      rw [List.take_of_length_le (by have := HN.out; omega), List.drop_of_length_le (by have := HN.out; omega), List.append_nil] at hR
      have hcb := run_convert_bytes_back (P := Try.prog) wr 48 9 5 ⟨w.heap.size, 0, none⟩ cap (l.map lowC) Try.underlying48 Try.underlying5 Try.underlying9 (fun j hj => by rw [add_plain, Nat.zero_add]; exact hR.c j hj)
      rw [List.length_map, HN.out] at hcb
      have HLB := Lib.hid (show (⟨(l.map lowC).toArray⟩ : ByteArray) = lowB s by unfold lowB; rw [HL.out])
      rw [HLB.out] at hcb
      clear hR hlt
      go_wp2_with fail
      go_ret
      exact ⟨rfl, HBk.out⟩

theorem lower_any (s : ByteArray) (w : World) (hs : s.size ≤ 1000000) :
    Calls Try.prog 36 #[.string s] w fun e w' => e = .returned (.string (lowB s)) ∧ Below w.heap.size w w' := by
  have H := Lib.hid (each_low s w hs)
  generalize lowB s = t at H ⊢
  go_enter Try.func36, Try.ntmps36
  go_wp2_with fail
  refine H.out.mono ?_
  rintro e w' ⟨rfl, hb⟩
  have HB := Lib.hid hb
  clear hb
  go_wp2_with fail
  go_ret
  exact ⟨rfl, HB.out⟩

end Go.Proofs.Ytimcjkkbooinbaa
