/- New: a table of bytes, or what is wrong. -/
import Derived.Test.YtfeikolfdggnfaaDoorTg
namespace Go.Proofs.YtfeikolfdggnfaaDoor
open Go.RowKit Go.Shelf Go.Sort

/-- The first row from i on whose key is not behind the one before it. -/
def badFrom (bytes : ByteArray) (wd key n : Nat) : Nat → Nat → Option Nat
  | 0, _ => none
  | m + 1, i => if i < n then (if Op.bytesLess (keyB bytes wd key (i - 1)).toList (keyB bytes wd key i).toList = true then badFrom bytes wd key n m (i + 1) else some i) else none

/-- What is wrong with bytes: the kind, the place. -/
def newE (width key : Int) (bytes : ByteArray) : Option (Int × Int) :=
  if mayB width key = false then some (1, 0)
  else if bytes.size % width.toNat ≠ 0 then some (12, bytes.size)
  else (badFrom bytes width.toNat key.toNat (bytes.size / width.toNat) (bytes.size / width.toNat) 1).map fun i => (13, ((i * width.toNat : Nat) : Int))

/-- What New, and Build, hand back: a table of bytes, or what is wrong. -/
def TabPost (w : World) (r : Option (Int × Int)) (width key : Int) (bytes : ByteArray) (e : Ending) (w' : World) : Prop :=
  Below w.heap.size w w' ∧
  match r with
  | some (k, a) => ∃ g, w.heap.size ≤ g ∧ e = .returned (.tuple #[.pointer none, faultV g]) ∧ w'.heap[g]? = some (faultObj k a tableWord)
  | none => ∃ g, w.heap.size ≤ g ∧ e = .returned (.tuple #[.pointer (some ⟨g, 0, none⟩), .nilIface]) ∧ TabAt w' g width.toNat key.toNat bytes

theorem TabPost.wrong {w : World} {width key : Int} {bytes : ByteArray} {k a : Int} {W : World} {g : Nat} (hb : Below w.heap.size w W) (hg : W.heap.size = g := by rfl) : TabPost w (some (k, a)) width key bytes (.returned (.tuple #[.pointer none, faultV g])) (W.alloc (faultObj k a tableWord)) := by
  subst hg
  exact ⟨hb.alloc hb.size _, W.heap.size, hb.size, rfl, heap_alloc_new W _⟩

set_option maxHeartbeats 400000 in
theorem new_arg (width key : Int) (bytes : ByteArray) (w : World) (h : mayB width key = false) :
    Calls Tryd.prog 18 #[.int .i64 width, .int .i64 key, .string bytes] w (TabPost w (newE width key bytes) width key bytes) := by
  have H := Lib.hid (show newE width key bytes = some (1, 0) by unfold newE; rw [if_pos h])
  have hm := may_any width key w
  rw [h] at hm
  have HM := Lib.hid hm
  clear hm h
  go_enter Tryd.func18, Tryd.ntmps18
  go_wp2_with (first | (go_at_call 26; refine HM.out.mono ?_; rintro e w' ⟨rfl, n, rfl⟩) | (go_at_call 27; refine (wrong_any 1 0 _ (by decide)).mono ?_; rintro e w' ⟨rfl, rfl⟩))
  go_ret2
  rw [H.out]
  exact TabPost.wrong (below_drewN (Below.refl _ _) _)

set_option maxHeartbeats 400000 in
theorem new_form (width key : Int) (bytes : ByteArray) (w : World) (hs : bytes.size ≤ maxLen) (h : mayB width key = true) (hf : bytes.size % width.toNat ≠ 0) :
    Calls Tryd.prog 18 #[.int .i64 width, .int .i64 key, .string bytes] w (TabPost w (newE width key bytes) width key bytes) := by
  have H := Lib.hid (show newE width key bytes = some (12, (bytes.size : Int)) by unfold newE; rw [if_neg (by simp [h]), if_pos hf])
  have hm := may_any width key w
  have hmb := h
  simp only [mayB, Bool.and_eq_true, decide_eq_true_eq] at hmb
  obtain ⟨hk1, hk2, hw⟩ := hmb
  rw [h] at hm
  have HM := Lib.hid hm
  obtain ⟨wd, rfl⟩ := Int.eq_ofNat_of_zero_le (show 0 ≤ width by omega)
  rw [Int.toNat_natCast] at hf
  have hf2 : (((bytes.size : Int) % (wd : Int)) == 0) = false := by
    rw [beq_eq_false_iff_ne, ← Int.natCast_emod]; omega
  have hf3 : (((bytes.size : Int) % (wd : Int)) != 0) = true := by
    rw [bne_iff_ne, ← Int.natCast_emod]; omega
  unfold maxLen at hs
  clear hm h hf
  go_enter Tryd.func18, Tryd.ntmps18
  go_wp2_with (first | (go_at_call 26; refine HM.out.mono ?_; rintro e w' ⟨rfl, n, rfl⟩) | (go_at_call 27; refine (wrong_any 12 _ _ (by decide)).mono ?_; rintro e w' ⟨rfl, rfl⟩))
  go_ret2
  rw [H.out]
  exact TabPost.wrong (below_drewN (Below.refl _ _) _)

set_option maxHeartbeats 1000000 in
set_option maxRecDepth 100000 in
theorem new_rest (width key : Int) (bytes : ByteArray) (w : World) (hs : bytes.size ≤ 140737488355328) (h : mayB width key = true) (hf : bytes.size % width.toNat = 0) :
    Calls Tryd.prog 18 #[.int .i64 width, .int .i64 key, .string bytes] w (TabPost w (newE width key bytes) width key bytes) := by
  have hm := may_any width key w
  have hmb := h
  simp only [mayB, Bool.and_eq_true, decide_eq_true_eq] at hmb
  obtain ⟨hk1, hk2, hw⟩ := hmb
  rw [h] at hm
  have HM := Lib.hid hm
  obtain ⟨wd, rfl⟩ := Int.eq_ofNat_of_zero_le (show 0 ≤ width by omega)
  obtain ⟨kk, rfl⟩ := Int.eq_ofNat_of_zero_le (show 0 ≤ key by omega)
  rw [Int.toNat_natCast] at hf
  have ok : TabOk wd kk bytes (bytes.size / wd) := ⟨rfl, hs, by omega, by omega, by omega, by omega⟩
  have H := Lib.hid (show newE wd kk bytes = (badFrom bytes wd kk (bytes.size / wd) (bytes.size / wd) 1).map fun i => (13, ((i * wd : Nat) : Int)) by unfold newE; rw [if_neg (by simp [h]), if_neg (by simp [hf])]; rfl)
  have hf2 : (((bytes.size : Int) % (wd : Int)) == 0) = true := by
    rw [beq_iff_eq, ← Int.natCast_emod]; omega
  have hf3 : (((bytes.size : Int) % (wd : Int)) != 0) = false := by
    rw [bne_eq_false_iff_eq, ← Int.natCast_emod]; omega
  generalize bytes.size / wd = n at *
  have hn := ok.nle
  clear hm h hf
  go_enter Tryd.func18, Tryd.ntmps18
  go_wp2_with (go_at_call 26; refine HM.out.mono ?_; rintro e w' ⟨rfl, m, rfl⟩)
  have hW : ∃ W1, (w.drewN m).alloc (.cells #[.int .i64 wd, .int .i64 kk, .string bytes] 73) = W1 ∧ Below w.heap.size w W1 ∧ TabAt W1 w.heap.size wd kk bytes :=
    ⟨_, rfl, (below_drewN (Below.refl _ _) _).alloc (Nat.le_refl _) _, ⟨World.cell?_alloc_new _ _ _ 0, World.cell?_alloc_new _ _ _ 1, World.cell?_alloc_new _ _ _ 2⟩⟩
  obtain ⟨W1, hW1, hb1, hT⟩ := hW
  rw [hW1]
  clear hW1
  have hTS := w.heap.size
  go_loopw [9] (fun i wr => ∃ k : Nat, i = .int .i64 k ∧ 1 ≤ k ∧ k ≤ n + 1 ∧ Hid (badFrom bytes wd kk n n 1 = badFrom bytes wd kk n (n + 1 - k) k ∧ ∃ m, wr = W1.drewN m)) (fun i _ => n + 1 - (intOf i).toNat)
  case atStart => exact ⟨1, rfl, by omega, by omega, rfl, 0, rfl⟩
  case round =>
    obtain ⟨k, rfl, hk, hkn, HP⟩ := hrel
    obtain ⟨hbad, m2, rfl⟩ := HP.out
    have HBAD := Lib.hid hbad
    clear hbad HP
    have hTw := hT.drewN m2
    obtain ⟨c0, c1, c2⟩ := id hTw
    by_cases hlt : k < n
    · have hfit := row_fits ok hlt
      have hfit2 := row_fits ok (show k - 1 < n by omega)
      have hz1 : (kk : Int) ≤ ((rowB bytes wd k).size : Int) := by simp [rowB]; omega
      have hz2 : (kk : Int) ≤ ((rowB bytes wd (k - 1)).size : Int) := by simp [rowB]; omega
      go_wp2_with (go_at_call 17; refine (len_any _ wd kk n bytes _ ok hTw).mono ?_; rintro e w' ⟨rfl, m3, rfl⟩)
      have hw1 : IntKind.i64.wrap ((k : Int) - 1) = (k : Int) - 1 := IntWalk.i64_in _ (by omega)
      have hT2 := hT.drewN (m2 + m3)
      generalize hW2 : W1.drewN (m2 + m3) = W2 at hT2 ⊢
      have HW2 := Lib.hid hW2
      obtain ⟨d0, d1, d2⟩ := id hT2
      clear hW2 c0 c1 c2
      go_quiet ((go_at_call 39; exact Calls.quiet_of (at_any _ wd kk n _ bytes _ (by omega) (row_fits ok (by omega)) ok (hT2.drewN _))))
      clear hw1
      go_wp2_with (go_at_call 27; refine (wrong_any 13 _ _ (by decide)).mono ?_; rintro e w' ⟨rfl, rfl⟩)
      · rename_i hbl
        have hb2 : Op.bytesLess (keyB bytes wd kk (k - 1)).toList (keyB bytes wd kk k).toList ≠ true := by intro h; unfold keyB at h; rw [h] at hbl; cases hbl
        have HE := Lib.hid (show newE wd kk bytes = some (13, ((k * wd : Nat) : Int)) by
          rw [H.out, HBAD.out, show n + 1 - k = (n - k) + 1 by omega]; simp only [badFrom]; rw [if_pos hlt, if_neg hb2]; rfl)
        clear hbl hb2
        go_ret2
        rw [HE.out]
        have hbW : Below w.heap.size w (W2.drewN nq) := by rw [← HW2.out]; exact below_drewN (below_drewN hb1 _) _
        exact TabPost.wrong hbW
      · rename_i hbl
        have hb2 : Op.bytesLess (keyB bytes wd kk (k - 1)).toList (keyB bytes wd kk k).toList = true := by unfold keyB; simpa using hbl
        have HE := Lib.hid (show badFrom bytes wd kk n n 1 = badFrom bytes wd kk n (n + 1 - (k + 1)) (k + 1) by
          rw [HBAD.out, show n + 1 - k = (n + 1 - (k + 1)) + 1 by omega]; simp only [badFrom]; rw [if_pos hlt, if_pos hb2])
        clear hbl hb2
        go_roundw
        case rel => exact ⟨k + 1, by go_num, by omega, by omega, HE.out, m2 + m3 + nq, by rw [← HW2.out, World.drewN_drewN]⟩
        case measure => simp [intOf]; omega
    · have HE := Lib.hid (show newE wd kk bytes = none by
        rw [H.out, HBAD.out]
        have : badFrom bytes wd kk n (n + 1 - k) k = none := by
          rcases hq : n + 1 - k with _ | q
          · rfl
          · simp only [badFrom]; rw [if_neg hlt]
        rw [this]; rfl)
      have hge : n ≤ k := by omega
      clear hlt
      go_wp2_with (go_at_call 17; refine (len_any _ wd kk n bytes _ ok hTw).mono ?_; rintro e w' ⟨rfl, m3, rfl⟩)
      go_ret2
      rw [HE.out]
      exact ⟨below_drewN hb1 _, w.heap.size, Nat.le_refl _, rfl, hT.drewN _⟩

/-- New: a table of bytes, or what is wrong. -/
theorem new_tab (width key : Int) (bytes : ByteArray) (w : World) (hs : bytes.size ≤ 140737488355328) :
    Calls Tryd.prog 18 #[.int .i64 width, .int .i64 key, .string bytes] w (TabPost w (newE width key bytes) width key bytes) := by
  cases h : mayB width key with
  | false => exact new_arg width key bytes w h
  | true =>
    by_cases hf : bytes.size % width.toNat = 0
    · exact new_rest width key bytes w hs h hf
    · exact new_form width key bytes w (by unfold maxLen; omega) h hf

end Go.Proofs.YtfeikolfdggnfaaDoor
