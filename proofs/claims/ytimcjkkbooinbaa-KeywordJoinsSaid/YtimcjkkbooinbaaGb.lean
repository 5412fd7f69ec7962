/- Bytes in small letters: the program's, and the document's. -/
import Derived.Test.YtimcjkkbooinbaaGa
import Derived.Laws.IdiomStrings
namespace Go.Proofs.Ytimcjkkbooinbaa
open Go.RowKit

/-- A byte in small letters, and in great ones. -/
def lowC (c : UInt8) : UInt8 := if 65 ≤ c.toNat ∧ c.toNat ≤ 90 then c + 32 else c
def uppC (c : UInt8) : UInt8 := if 97 ≤ c.toNat ∧ c.toNat ≤ 122 then c - 32 else c
def lowB (s : ByteArray) : ByteArray := ⟨(s.data.toList.map lowC).toArray⟩
def uppB (s : ByteArray) : ByteArray := ⟨(s.data.toList.map uppC).toArray⟩

theorem lowC_yes {c : UInt8} (h1 : 65 ≤ c.toNat) (h2 : c.toNat ≤ 90) : ((lowC c).toNat : Int) = c.toNat + 32 := by
  unfold lowC; rw [if_pos ⟨h1, h2⟩, UInt8.toNat_add]
  have : (32 : UInt8).toNat = 32 := rfl
  omega
theorem lowC_no {c : UInt8} (h : ¬ (65 ≤ c.toNat ∧ c.toNat ≤ 90)) : ((lowC c).toNat : Int) = c.toNat := by
  unfold lowC; rw [if_neg h]
theorem uppC_yes {c : UInt8} (h1 : 97 ≤ c.toNat) (h2 : c.toNat ≤ 122) : ((uppC c).toNat : Int) = c.toNat - 32 := by
  unfold uppC; rw [if_pos ⟨h1, h2⟩, UInt8.toNat_sub]
  have : (32 : UInt8).toNat = 32 := rfl
  omega
theorem uppC_no {c : UInt8} (h : ¬ (97 ≤ c.toNat ∧ c.toNat ≤ 122)) : ((uppC c).toNat : Int) = c.toNat := by
  unfold uppC; rw [if_neg h]

theorem lower8_any (c : UInt8) (w : World) : Calls Try.prog 52 #[.int .u8 (c.toNat : Int)] w fun e w' => e = .returned (.int .u8 ((lowC c).toNat : Int)) ∧ w' = w := by
  have hc := c.toNat_lt
  have H1 := Lib.hid (@lowC_yes c)
  have H2 := Lib.hid (@lowC_no c)
  generalize lowC c = d at H1 H2 ⊢
  generalize c.toNat = n at hc H1 H2 ⊢
  by_cases h1 : 65 ≤ n
  · by_cases h2 : n ≤ 90
    · have H := Lib.hid (H1.out h1 h2)
      have e1 : (65 : Int) ≤ (n : Int) := by omega
      have e2 : (n : Int) ≤ 90 := by omega
      have e3 : (0 : Int) ≤ (n : Int) + 32 := by omega
      have e4 : (n : Int) + 32 ≤ 255 := by omega
      clear H1 H2
      go_enter Try.func52, Try.ntmps52
      go_wp2
      go_ret
      exact ⟨by rw [H.out]; first | rfl | (congr 2; omega), rfl⟩
    · have H := Lib.hid (H2.out (fun h => h2 h.2))
      have e2 : (90 : Int) < (n : Int) := by omega
      have e1 : (65 : Int) ≤ (n : Int) := by omega
      clear H1 H2
      go_enter Try.func52, Try.ntmps52
      go_wp2
      go_ret
      exact ⟨by rw [H.out]; rfl, rfl⟩
  · have H := Lib.hid (H2.out (fun h => h1 h.1))
    have e1 : (n : Int) < 65 := by omega
    clear H1 H2
    go_enter Try.func52, Try.ntmps52
    go_wp2
    go_ret
    exact ⟨by rw [H.out]; rfl, rfl⟩

theorem lowerR_any (c : UInt8) (w : World) : Calls Try.prog 33 #[.int .u8 (c.toNat : Int)] w fun e w' => e = .returned (.int .u8 ((lowC c).toNat : Int)) ∧ w' = w := by
  have hc := c.toNat_lt
  have H1 := Lib.hid (@lowC_yes c)
  have H2 := Lib.hid (@lowC_no c)
  generalize lowC c = d at H1 H2 ⊢
  generalize c.toNat = n at hc H1 H2 ⊢
  by_cases h1 : 65 ≤ n
  · by_cases h2 : n ≤ 90
    · have H := Lib.hid (H1.out h1 h2)
      have e1 : (65 : Int) ≤ (n : Int) := by omega
      have e2 : (n : Int) ≤ 90 := by omega
      have HW := Lib.hid (show IntKind.u8.wrap (IntKind.u8.wrap ((n : Int) - 65) + 97) = (n : Int) + 32 by simp [IntKind.wrap, IntKind.bits, IntKind.signed]; omega)
      clear H1 H2
      go_enter Try.func33, Try.ntmps33
      go_wp2
      go_ret
      exact ⟨by rw [H.out, ← HW.out]; first | rfl | (congr 2; simp [IntKind.wrap, IntKind.bits, IntKind.signed]; omega), rfl⟩
    · have H := Lib.hid (H2.out (fun h => h2 h.2))
      have e2 : (90 : Int) < (n : Int) := by omega
      have e1 : (65 : Int) ≤ (n : Int) := by omega
      clear H1 H2
      go_enter Try.func33, Try.ntmps33
      go_wp2
      go_ret
      exact ⟨by rw [H.out]; rfl, rfl⟩
  · have H := Lib.hid (H2.out (fun h => h1 h.1))
    have e1 : (n : Int) < 65 := by omega
    clear H1 H2
    go_enter Try.func33, Try.ntmps33
    go_wp2
    go_ret
    exact ⟨by rw [H.out]; rfl, rfl⟩

theorem lower1_any (i : Int) (c : UInt8) (w : World) : Calls Try.prog 51 #[.int .i64 i, .int .u8 (c.toNat : Int)] w fun e w' => e = .returned (.int .u8 ((lowC c).toNat : Int)) ∧ w' = w := by
  have H := Lib.hid (lower8_any c w)
  generalize ((lowC c).toNat : Int) = d at H ⊢
  go_enter Try.func51, Try.ntmps51
  go_wp2_with fail
  refine H.out.mono ?_
  rintro e w' ⟨rfl, rfl⟩
  go_wp2_with fail
  go_ret
  exact ⟨rfl, rfl⟩

end Go.Proofs.Ytimcjkkbooinbaa
