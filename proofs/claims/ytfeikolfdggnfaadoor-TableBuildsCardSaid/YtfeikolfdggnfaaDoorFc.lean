/- The document's answer: Find. -/
import Derived.Test.YtfeikolfdggnfaaDoorFb
namespace Go.Proofs.YtfeikolfdggnfaaDoor
open Go.RowKit Go.Shelf

/-- The first row with such a key. -/
def refIdx (xs : List ByteArray) (size : Nat) (k : List UInt8) : Nat → Nat → Int
  | 0, _ => -1
  | m + 1, i => if keyL size (xs.getD i ⟨#[]⟩) = k then (i : Int) else refIdx xs size k m (i + 1)

set_option maxHeartbeats 400000 in
set_option maxRecDepth 100000 in
theorem reffind_any (a : Option Addr) (cap : Nat) (xs : List ByteArray) (k : ByteArray) (size : Nat) (w : World) (h : StrsAt w a xs) (hz : ∀ x ∈ xs, size ≤ x.size) (hl : xs.length ≤ 1000000) (hs : size ≤ 255) :
    Calls Tryd.prog 34 #[.slice a xs.length cap, .string k, .int .i64 size] w fun e w' => e = .returned (.int .i64 (refIdx xs size k.toList xs.length 0)) ∧ w' = w := by
  go_enter Tryd.func34, Tryd.ntmps34
  go_wp2_with fail
  have HS := Lib.hid h
  have HZ := Lib.hid hz
  clear h hz
  go_loopw [7] (fun i wr => ∃ j : Nat, i = .int .i64 j ∧ j ≤ xs.length ∧ wr = w ∧ Hid (refIdx xs size k.toList xs.length 0 = refIdx xs size k.toList (xs.length - j) j)) (fun i _ => xs.length - (intOf i).toNat)
  case atStart => exact ⟨0, rfl, by omega, rfl, rfl⟩
  case round =>
    obtain ⟨j, rfl, hj, rfl, HR⟩ := hrel
    by_cases hlt : j < xs.length
    · obtain ⟨b, off, rfl, hc⟩ := HS.out j hlt
      have hzj := HZ.out xs[j] (List.getElem_mem hlt)
      have hzi : (size : Int) ≤ (xs[j].size : Int) := by omega
      have hstep : Hid (refIdx xs size k.toList (xs.length - j) j = if keyL size xs[j] = k.toList then (j : Int) else refIdx xs size k.toList (xs.length - (j + 1)) (j + 1)) := Lib.hid (by
        rw [show xs.length - j = (xs.length - (j + 1)) + 1 by omega]
        simp only [refIdx]
        rw [show xs.getD j ⟨#[]⟩ = xs[j] by simp [List.getD, hlt]])
      unfold keyL at hstep
      generalize xs[j] = s at hc hzj hzi hstep
      cases he : ((s.extract 0 size).toList == k.toList) with
      | true =>
        have HE := Lib.hid (show (s.extract 0 size).toList = k.toList by simpa using he)
        go_wp2_with fail
        go_ret
        exact ⟨by rw [HR.out, hstep.out, if_pos HE.out]; rfl, rfl⟩
      | false =>
        have HE := Lib.hid (show (s.extract 0 size).toList ≠ k.toList by simpa using he)
        go_wp2_with fail
        go_roundw
        case rel => exact ⟨j + 1, by go_num, by omega, by trivial, Lib.hid (by rw [HR.out, hstep.out, if_neg HE.out])⟩
        case measure => simp [intOf]; omega
    · have HE := Lib.hid (show refIdx xs size k.toList (xs.length - j) j = -1 by rw [show xs.length - j = 0 by omega]; rfl)
      go_wp2_with fail
      go_ret
      exact ⟨by rw [HR.out, HE.out]; rfl, rfl⟩

end Go.Proofs.YtfeikolfdggnfaaDoor
