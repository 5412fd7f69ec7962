/- Keys: where they are found in a table. -/
import Derived.Test.YtfeikolfdggnfaaDoorTb
namespace Go.Proofs.YtfeikolfdggnfaaDoor
open Go.RowKit

/-- Does a text begin with another one? -/
def begB (s t : ByteArray) : Bool := decide (t.size ≤ s.size) && ((s.extract 0 t.size).toList == t.toList)

theorem begB_yes {s t : ByteArray} (h : t.size ≤ s.size) : ((s.extract 0 t.size).toList == t.toList) = begB s t := by simp [begB, h]
theorem begB_no {s t : ByteArray} (h : ¬ t.size ≤ s.size) : false = begB s t := by simp [begB, h]

set_option maxHeartbeats 400000 in
theorem begins_any (s t : ByteArray) (w : World) (hs : s.size ≤ maxLen) (ht : t.size ≤ maxLen) :
    Calls Tryd.prog 35 #[.string s, .string t] w (Quietly w (.bool (begB s t))) := by
  unfold maxLen at hs ht
  go_enter Tryd.func35, Tryd.ntmps35
  go_wp2
  · rename_i h; go_ret; exact .mk 0 (congrArg Value.bool (begB_yes h)) rfl
  · rename_i h; go_ret; exact .mk 0 (congrArg Value.bool (begB_no h)) rfl

set_option maxHeartbeats 400000 in
theorem hasPrefix_any (s t : ByteArray) (w : World) (hs : s.size ≤ maxLen) (ht : t.size ≤ maxLen) :
    Calls Tryd.prog 38 #[.string s, .string t] w (Quietly w (.bool (begB s t))) := by
  unfold maxLen at hs ht
  go_enter Tryd.func38, Tryd.ntmps38
  go_wp2
  · rename_i h; go_ret; exact .mk 0 (congrArg Value.bool (begB_yes h)) rfl
  · rename_i h; go_ret; exact .mk 0 (congrArg Value.bool (begB_no h)) rfl

/-- How two texts stand. -/
def cmpB (s t : List UInt8) : Int := if Op.bytesLess s t then -1 else if s == t then 0 else 1

set_option maxHeartbeats 400000 in
theorem compare_any (s t : ByteArray) (w : World) :
    Calls Tryd.prog 31 #[.string s, .string t] w (Quietly w (.int .i64 (cmpB s.toList t.toList))) := by
  go_enter Tryd.func31, Tryd.ntmps31
  go_wp2
  · rename_i h; go_ret; exact .mk 0 (congrArg (Value.int .i64) (by unfold cmpB; rw [if_pos h])) rfl
  · rename_i h1 h2; go_ret; exact .mk 0 (congrArg (Value.int .i64) (by unfold cmpB; rw [if_neg (by simp [*]), if_neg (by simpa using h2)])) rfl
  · rename_i h1 h2; go_ret; exact .mk 0 (congrArg (Value.int .i64) (by unfold cmpB; rw [if_neg (by simp [*]), if_pos (by simpa using h2)])) rfl

/-- The order of Build's rows. -/
theorem build1_any (key : Nat) (s t : ByteArray) (p : Addr) (w : World) (hs : key ≤ s.size) (ht : key ≤ t.size) (hs2 : s.size ≤ maxLen) (ht2 : t.size ≤ maxLen) (hp : w.cell? p = some (.int .i64 key)) :
    Calls Tryd.prog 30 #[.string s, .string t, .pointer (some p)] w (Quietly w (.int .i64 (cmpB (s.extract 0 key).toList (t.extract 0 key).toList))) := by
  unfold maxLen at hs2 ht2
  go_enter Tryd.func30, Tryd.ntmps30
  go_wp2
  go_quiet ((go_at_call 31; exact Calls.quiet_of (compare_any _ _ _)))
  go_wp2
  go_ret
  exact .mk nq rfl rfl

set_option maxHeartbeats 400000 in
theorem from1_any (g wd key n : Nat) (i : Int) (bytes : ByteArray) (k : ByteArray) (p q : Addr) (w : World) (hi : 0 ≤ i) (hi2 : i.toNat < n) (ok : TabOk wd key bytes n) (h : TabAt w g wd key bytes)
    (hp : w.cell? p = some (.pointer (some ⟨g, 0, none⟩))) (hq : w.cell? q = some (.string k)) :
    Calls Tryd.prog 53 #[.int .i64 i, .pointer (some p), .pointer (some q)] w (Quietly w (.bool (!Op.bytesLess (keyB bytes wd key i.toNat).toList k.toList))) := by
  have hh := h
  obtain ⟨c0, c1, c2⟩ := hh
  have h1 := row_fits ok hi2
  have h2 : (key : Int) ≤ (rowB bytes wd i.toNat).size := by have := ok.hk2; simp [rowB]; omega
  have H := Lib.hid (show (rowB bytes wd i.toNat).extract 0 key = keyB bytes wd key i.toNat from rfl)
  go_enter Tryd.func53, Tryd.ntmps53
  go_wp2
  go_quiet ((go_at_call 39; exact Calls.quiet_of (at_any g wd key n i bytes _ hi h1 ok (h.drewN _))))
  go_wp2
  go_ret
  exact .mk nq (by rw [← H.out]; rfl) rfl

set_option maxHeartbeats 400000 in
/-- The first place from which on the closure says yes. -/
theorem search_any (n : Nat) (cap : Array Value) (p : Nat → Bool) (w : World) (hn : n ≤ 4611686018427387904)
    (hcl : ∀ (i : Int) (m : Nat), 0 ≤ i → i.toNat < n → Calls Tryd.prog 53 (#[.int .i64 i] ++ cap) (w.drewN m) (Quietly (w.drewN m) (.bool (p i.toNat)))) :
    Calls Tryd.prog 52 #[.int .i64 n, .func (.func 53) #[] cap] w fun e w' => ∃ r : Nat, r ≤ n ∧ (0 < r → p (r - 1) = false) ∧ (r < n → p r = true) ∧ Quietly w (.int .i64 r) e w' := by
  have HC := Lib.hid hcl
  clear hcl
  go_enter Tryd.func52, Tryd.ntmps52
  go_wp2
  go_loopw [5, 6] (fun i j wr => ∃ (a b : Nat), a ≤ b ∧ b ≤ n ∧ i = .int .i64 a ∧ j = .int .i64 b ∧ Hid ((0 < a → p (a - 1) = false) ∧ (b < n → p b = true) ∧ ∃ m, wr = w.drewN m)) (fun i j _ => (intOf j - intOf i).toNat)
  case atStart => exact ⟨0, n, by omega, by omega, rfl, rfl, by omega, by omega, 0, rfl⟩
  case round =>
    obtain ⟨a, b, hab, hbn, rfl, rfl, HP⟩ := hrel
    obtain ⟨hp1, hp2, m, rfl⟩ := HP.out
    clear HP
    have H1 := Lib.hid hp1
    have H2 := Lib.hid hp2
    clear hp1 hp2
    by_cases hlt : a < b
    · have hmid : ((a : Int) + b) / 2 < b := by omega
      have hmid2 : (a : Int) ≤ ((a : Int) + b) / 2 := by omega
      cases hp : p ((a + b) / 2)
      all_goals
        have HPP := Lib.hid hp
        clear hp
        go_wp2_with fail
        refine (HC.out _ m (by omega) (by omega)).mono ?_
        rintro e w' ⟨rfl, m2, rfl⟩
        rw [show ((((a : Int) + b) / 2).toNat) = (a + b) / 2 by omega, HPP.out]
        go_wp2
        go_roundw
        case rel => first | exact ⟨(a + b) / 2 + 1, b, by omega, hbn, by go_num, rfl, fun _ => HPP.out, H2.out, _, rfl⟩ | exact ⟨a, (a + b) / 2, by omega, by omega, rfl, by go_num, H1.out, fun _ => HPP.out, _, rfl⟩
        case measure => simp [intOf]; omega
    · have hE : a = b := by omega
      have H := Lib.hid hE
      clear hE
      go_wp2
      go_ret
      exact ⟨a, by omega, H1.out, by rw [H.out]; exact H2.out, .mk m rfl rfl⟩

end Go.Proofs.YtfeikolfdggnfaaDoor
