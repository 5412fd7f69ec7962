/- Leaves of the table laws: contracts of small functions. -/
import Derived.Test.YtfeikolfdggnfaaDoorRows
import Derived.WalkKit
import Derived.WalkSpells
import Derived.WalkLawsBesides
import Derived.Deep.QuietTactic
import Derived.BigQuiet
import Derived.Lib.Hide
namespace Go.Proofs.YtfeikolfdggnfaaDoor
open Go.RowKit

theorem grown_of_below {w w1 : World} (h : Below w.heap.size w w1) (row : Option Nat) : w.grownBy w1 row := ⟨h.os, h.tape, h.output, h.size, fun i hi _ => h.block i hi⟩

/-- A table at block g. -/
structure TabAt (w : World) (g wd key : Nat) (bytes : ByteArray) : Prop where
  c0 : w.cell? ⟨g, 0, none⟩ = some (.int .i64 wd)
  c1 : w.cell? ⟨g, 1, none⟩ = some (.int .i64 key)
  c2 : w.cell? ⟨g, 2, none⟩ = some (.string bytes)

theorem TabAt.drewN {w : World} {g wd key : Nat} {bytes : ByteArray} (h : TabAt w g wd key bytes) (n : Nat) : TabAt (w.drewN n) g wd key bytes :=
  ⟨by simpa using h.c0, by simpa using h.c1, by simpa using h.c2⟩

theorem TabAt.below {w w' : World} {g wd key : Nat} {bytes : ByteArray} (h : TabAt w g wd key bytes) (hb : Below w.heap.size w w') : TabAt w' g wd key bytes :=
  have hg : g < w.heap.size := World.block_lt_of_cell? w _ h.c0
  ⟨(hb.cell (p := ⟨g, 0, none⟩) hg).trans h.c0, (hb.cell (p := ⟨g, 1, none⟩) hg).trans h.c1, (hb.cell (p := ⟨g, 2, none⟩) hg).trans h.c2⟩

/-- The i-th row, and its key. -/
def rowB (b : ByteArray) (wd i : Nat) : ByteArray := b.extract (i * wd) (i * wd + wd)
def keyB (b : ByteArray) (wd key i : Nat) : ByteArray := (rowB b wd i).extract 0 key

/-- What must be so of a table that was made. -/
structure TabOk (wd key : Nat) (bytes : ByteArray) (n : Nat) : Prop where
  hn : bytes.size / wd = n
  hs : bytes.size ≤ 140737488355328
  hw : 1 ≤ wd
  hw2 : wd ≤ 255
  hk : 1 ≤ key
  hk2 : key ≤ wd

/-- What a function that only reads hands back. -/
def Quietly (w : World) (v : Value) (e : Ending) (w' : World) : Prop := e = .returned v ∧ ∃ n, w' = w.drewN n

theorem Quietly.mk {w w' : World} {v v' : Value} (n : Nat) (h : v' = v) (hw : w' = w.drewN n) : Quietly w v (.returned v') w' := ⟨by rw [h], n, hw⟩

theorem rest_mod {x n : Int} (hn : 1 ≤ n) (hn2 : n ≤ 1000000) : (wrap64 (x.tmod n + n)).tmod n = x % n := by
  have h1 : x.tmod n < n := Int.tmod_lt_of_pos x (by omega)
  have h2 : -n < x.tmod n := by
    have := Int.tmod_lt_of_pos (-x) (show 0 < n by omega); rw [Int.neg_tmod] at this; omega
  rw [show wrap64 (x.tmod n + n) = x.tmod n + n by unfold wrap64; omega]
  rw [Int.tmod_eq_emod_of_nonneg (by omega), Int.add_emod_right]
  have h3 := Int.emod_add_mul_ediv x n
  rw [Int.tmod_eq_emod]
  split
  · simp
  · rw [show ((n.natAbs : Nat) : Int) = n by omega, Int.sub_emod]; simp

set_option maxHeartbeats 400000 in
theorem rest_any (x n : Int) (w : World) (hn : 1 ≤ n) (hn2 : n ≤ 1000000) :
    Calls Tryd.prog 9 #[.int .i64 x, .int .i64 n] w (Quietly w (.int .i64 (x % n))) := by
  have HH := Lib.hid (rest_mod (x := x) hn hn2)
  go_enter Tryd.func9, Tryd.ntmps9
  go_wp2
  go_ret
  exact .mk 0 (by rw [HH.out]; rfl) rfl

theorem extract_all (s : ByteArray) (n : Nat) (h : s.size ≤ n) : s.extract 0 n = s := by
  ext1; simp only [ByteArray.data_extract]; exact Array.extract_eq_self_of_le h

set_option maxHeartbeats 400000 in
theorem short_any (s : ByteArray) (w : World) (hs : s.size ≤ maxLen) :
    Calls Tryd.prog 14 #[.string s] w (Quietly w (.string (s.extract 0 60))) := by
  unfold maxLen at hs
  go_enter Tryd.func14, Tryd.ntmps14
  go_wp2
  · go_ret; exact .mk 0 rfl rfl
  · go_ret; exact .mk 0 (by rename_i h; have hx := extract_all s 60 (by omega); show Value.string s = Value.string (s.extract 0 60); rw [hx]) rfl

set_option maxHeartbeats 400000 in
theorem len_any (g wd key n : Nat) (bytes : ByteArray) (w : World) (ok : TabOk wd key bytes n) (h : TabAt w g wd key bytes) :
    Calls Tryd.prog 17 #[.pointer (some ⟨g, 0, none⟩)] w (Quietly w (.int .i64 (n : Int))) := by
  obtain ⟨c0, c1, c2⟩ := h
  obtain ⟨hn, hs, hw, hw2, -, -⟩ := ok
  have h1 : bytes.size / wd ≤ bytes.size := Nat.div_le_self _ _
  have H := Lib.hid (show wrap64 ((bytes.size : Int) / wd) = (n : Int) by
    rw [← Int.natCast_ediv, hn]; rw [hn] at h1; unfold wrap64; omega)
  clear h1 hn
  go_enter Tryd.func17, Tryd.ntmps17
  go_wp2
  go_quiet (fail)
  go_wp2
  go_ret
  exact .mk nq (by rw [H.out]; rfl) rfl

theorem row_eq (b : ByteArray) (lo hi w : Nat) (h : lo + w = hi) (h2 : hi ≤ b.size) : (b.extract lo b.size).extract 0 w = b.extract lo hi := by
  ext1; simp only [ByteArray.data_extract, Array.extract_extract]; congr 1; simp only [ByteArray.size] at *; omega

set_option maxHeartbeats 400000 in
theorem at_any (g wd key n : Nat) (i : Int) (bytes : ByteArray) (w : World) (hi : 0 ≤ i) (hi2 : i.toNat * wd + wd ≤ bytes.size) (ok : TabOk wd key bytes n) (h : TabAt w g wd key bytes) :
    Calls Tryd.prog 39 #[.pointer (some ⟨g, 0, none⟩), .int .i64 i] w (Quietly w (.string (rowB bytes wd i.toNat))) := by
  obtain ⟨c0, c1, c2⟩ := h
  obtain ⟨hn, hs, hw, hw2, -, -⟩ := ok
  obtain ⟨m, rfl⟩ := Int.eq_ofNat_of_zero_le hi
  clear hn
  rw [Int.toNat_natCast] at *
  have hm : 0 ≤ (m : Int) * wd := Int.mul_nonneg hi (by omega)
  have hm2 : ((m : Int) * wd) + wd ≤ bytes.size := by have : ((m * wd + wd : Nat) : Int) ≤ bytes.size := by omega
                                                      simpa using this
  have hm3 : ((m : Int) * wd) ≤ bytes.size := by omega
  have hm4 : ((m : Int) * wd).toNat = m * wd := by rw [← Int.natCast_mul]; rfl
  have hm5 : (bytes.size : Int) ≤ 9223372036854775807 := by omega
  have H := Lib.hid (show (bytes.extract (m * wd) bytes.size).extract 0 wd = rowB bytes wd m from row_eq bytes (m * wd) (m * wd + wd) wd rfl hi2)
  have hm6 : ((m : Int) * wd).toNat ≤ bytes.size := by omega
  have hm7 : (wd : Int) ≤ ((bytes.extract ((m : Int) * wd).toNat bytes.size).size : Int) := by simp; omega
  clear hm4
  go_enter Tryd.func39, Tryd.ntmps39
  go_wp2
  go_quiet (fail)
  go_wp2
  go_ret
  exact .mk nq (by rw [H.out]; rfl) rfl

/-- May rows be so long, and their keys? -/
def mayB (width key : Int) : Bool := decide (1 ≤ key) && (decide (key ≤ width) && decide (width ≤ 255))

set_option maxHeartbeats 400000 in
theorem may_any (width key : Int) (w : World) :
    Calls Tryd.prog 26 #[.int .i64 width, .int .i64 key] w (Quietly w (.bool (mayB width key))) := by
  go_enter Tryd.func26, Tryd.ntmps26
  go_wp2
  · go_ret; exact .mk 0 (by rename_i h1 h2; simp [mayB, h1, h2]) rfl
  · go_ret; exact .mk 0 (by rename_i h1 h2; simp [mayB]; omega) rfl
  · go_ret; exact .mk 0 (by rename_i h1; simp [mayB]; omega) rfl

/-- A fault of a kind at block g. -/
structure FaultAt (w : World) (g : Nat) (a : Int) (what : ByteArray) (inner : Value) : Prop where
  c0 : w.cell? ⟨g, 0, none⟩ = some (.int .i64 a)
  c1 : w.cell? ⟨g, 1, none⟩ = some (.string what)
  c2 : w.cell? ⟨g, 2, none⟩ = some inner

def errno (k : Int) : Value := .iface 26 (.int .i64 k)
def faultV (g : Nat) : Value := .iface 101 (.pointer (some ⟨g, 0, none⟩))
def faultObj (kind a : Int) (what : ByteArray) : Obj := .cells #[.int .i64 a, .string what, errno kind] 103

set_option maxHeartbeats 400000 in
theorem new_any (kind a : Int) (what : ByteArray) (w : World) (hk : kind ≠ 0) :
    Calls Tryd.prog 41 #[.int .i64 kind, .int .i64 a, .string what] w fun e w' => e = .returned (faultV w.heap.size) ∧ w.alloc (faultObj kind a what) = w' := by
  have hk' : (kind == 0) = false := by simpa using hk
  clear hk
  go_enter Tryd.func41, Tryd.ntmps41
  go_wp2
  go_ret
  exact ⟨rfl, rfl⟩

def tableWord : ByteArray := ⟨#[116, 97, 98, 108, 101]⟩

set_option maxHeartbeats 400000 in
theorem wrong_any (kind a : Int) (w : World) (hk : kind ≠ 0) :
    Calls Tryd.prog 27 #[.int .i64 kind, .int .i64 a] w fun e w' => e = .returned (faultV w.heap.size) ∧ w.alloc (faultObj kind a tableWord) = w' := by
  have hn := new_any kind a tableWord w hk
  unfold tableWord at hn
  go_enter Tryd.func27, Tryd.ntmps27
  go_wp2_with (go_at_call 41; refine hn.mono ?_; rintro e w' ⟨rfl, rfl⟩)
  go_ret
  exact ⟨rfl, rfl⟩

set_option maxHeartbeats 400000 in
theorem bytes_any (g wd key : Nat) (bytes : ByteArray) (w : World) (h : TabAt w g wd key bytes) :
    Calls Tryd.prog 19 #[.pointer (some ⟨g, 0, none⟩)] w (Quietly w (.string bytes)) := by
  obtain ⟨c0, c1, c2⟩ := h
  go_enter Tryd.func19, Tryd.ntmps19
  go_wp2
  go_ret
  exact .mk 0 rfl rfl

theorem row_fits {bytes : ByteArray} {wd key n i : Nat} (ok : TabOk wd key bytes n) (h : i < n) : i * wd + wd ≤ bytes.size := by
  have := Nat.mul_le_of_le_div wd (i + 1) bytes.size (by rw [ok.hn]; exact h)
  rw [Nat.add_mul, Nat.one_mul] at this; exact this

/-- A row, with whether there is one. -/
theorem row_yes (g wd key n : Nat) (i : Int) (bytes : ByteArray) (w : World) (hi : 0 ≤ i) (hi2 : i.toNat < n) (ok : TabOk wd key bytes n) (h : TabAt w g wd key bytes) :
    Calls Tryd.prog 20 #[.pointer (some ⟨g, 0, none⟩), .int .i64 i] w (Quietly w (.tuple #[.string (rowB bytes wd i.toNat), .bool true])) := by
  have h0 : i < (n : Int) := by omega
  have h1 := row_fits ok hi2
  go_enter Tryd.func20, Tryd.ntmps20
  go_wp2_with (first | (go_at_call 17; refine (len_any g wd key n bytes _ ok h).mono ?_; rintro e w' ⟨rfl, m, rfl⟩) | (go_at_call 39; refine (at_any g wd key n i bytes _ hi h1 ok (h.drewN _)).mono ?_; rintro e w' ⟨rfl, m, rfl⟩))
  all_goals (go_ret2; exact .mk _ rfl rfl)

theorem row_no (g wd key n : Nat) (i : Int) (bytes : ByteArray) (w : World) (hi : i < 0 ∨ (n : Int) ≤ i) (ok : TabOk wd key bytes n) (h : TabAt w g wd key bytes) :
    Calls Tryd.prog 20 #[.pointer (some ⟨g, 0, none⟩), .int .i64 i] w (Quietly w (.tuple #[.string ⟨#[]⟩, .bool false])) := by
  go_enter Tryd.func20, Tryd.ntmps20
  go_wp2_with (first | (go_at_call 17; refine (len_any g wd key n bytes _ ok h).mono ?_; rintro e w' ⟨rfl, m, rfl⟩))
  all_goals (go_ret2; first | exact .mk 0 rfl rfl | exact .mk _ rfl rfl)

end Go.Proofs.YtfeikolfdggnfaaDoor
