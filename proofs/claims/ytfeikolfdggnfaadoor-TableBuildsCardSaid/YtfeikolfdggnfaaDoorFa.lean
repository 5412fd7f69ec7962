/- The document's answer: New. -/
import Derived.Test.YtfeikolfdggnfaaDoorTv
namespace Go.Proofs.YtfeikolfdggnfaaDoor
open Go.RowKit Go.Shelf

/-- What the document's answer hands back: rows, or a kind and a place. -/
def RefPost (w : World) (r : Option (Int × Int)) (rows : List ByteArray) (e : Ending) (w' : World) : Prop :=
  Below w.heap.size w w' ∧
  match r with
  | some (k, a) => e = .returned (.agg #[.slice none 0 0, .int .i64 k, .int .i64 a])
  | none => ∃ a cap, e = .returned (.agg #[.slice a rows.length cap, .int .i64 0, .int .i64 0]) ∧ StrsAt w' a rows

def rowsL (bytes : ByteArray) (wd n : Nat) : List ByteArray := (List.range n).map (rowB bytes wd)

theorem rowsL_succ (bytes : ByteArray) (wd n : Nat) : rowsL bytes wd (n + 1) = rowsL bytes wd n ++ [rowB bytes wd n] := by
  unfold rowsL; rw [List.range_succ, List.map_append]; rfl
theorem rowsL_length (bytes : ByteArray) (wd n : Nat) : (rowsL bytes wd n).length = n := by simp [rowsL]

/-- The two boxes, and the rows, as they stand in the loop. -/
structure GotSt (w wr : World) (v : Value) (rows : List ByteArray) : Prop where
  b : Below w.heap.size w wr
  s : w.heap.size + 2 ≤ wr.heap.size
  r0 : wr.cell? ⟨w.heap.size, 0, none⟩ = some (.slice none 0 0)
  r1 : wr.cell? ⟨w.heap.size, 1, none⟩ = some (.int .i64 0)
  r2 : wr.cell? ⟨w.heap.size, 2, none⟩ = some (.int .i64 0)
  f0 : ∀ i, wr.frozen? ⟨w.heap.size, i, none⟩ = false
  g0 : wr.cell? ⟨w.heap.size + 1, 0, none⟩ = some v
  g1 : wr.cell? ⟨w.heap.size + 1, 1, none⟩ = some (.int .i64 0)
  g2 : wr.cell? ⟨w.heap.size + 1, 2, none⟩ = some (.int .i64 0)
  e0 : ∀ i, wr.frozen? ⟨w.heap.size + 1, i, none⟩ = false
  own : OwnS wr (w.heap.size + 2) v rows

set_option maxHeartbeats 400000 in
theorem refnew_arg (width key : Int) (bytes : ByteArray) (w : World) (h : mayB width key = false) :
    Calls Tryd.prog 24 #[.int .i64 width, .int .i64 key, .string bytes] w (RefPost w (some (1, 0)) []) := by
  have hc : key < 1 ∨ (1 ≤ key ∧ width < key) ∨ (1 ≤ key ∧ key ≤ width ∧ 255 < width) := by
    have h' := h
    simp only [mayB, Bool.and_eq_false_iff, decide_eq_false_iff_not] at h'
    omega
  clear h
  go_enter Tryd.func24, Tryd.ntmps24
  have hb : Below w.heap.size w (w.alloc (.cells #[.slice none 0 0, .int .i64 1, .int .i64 0] 28)) := (Below.refl _ _).alloc (Nat.le_refl _) _
  rcases hc with h1 | ⟨h1, h2⟩ | ⟨h1, h2, h3⟩
  all_goals
    go_wp2_with fail
    refine bodyPost_ret (v := .agg #[.slice none 0 0, .int .i64 1, .int .i64 0]) ?_ rfl ⟨hb, rfl⟩
    simp [results, Tryd.f24, go_sem]

set_option maxHeartbeats 400000 in
theorem refnew_form (width key : Int) (bytes : ByteArray) (w : World) (hs : bytes.size ≤ 140737488355328) (h : mayB width key = true) (hf : bytes.size % width.toNat ≠ 0) :
    Calls Tryd.prog 24 #[.int .i64 width, .int .i64 key, .string bytes] w (RefPost w (some (12, bytes.size)) []) := by
  have hmb := h
  simp only [mayB, Bool.and_eq_true, decide_eq_true_eq] at hmb
  obtain ⟨hk1, hk2, hw⟩ := hmb
  obtain ⟨wd, rfl⟩ := Int.eq_ofNat_of_zero_le (show 0 ≤ width by omega)
  rw [Int.toNat_natCast] at hf
  have hf2 : (((bytes.size : Int) % (wd : Int)) == 0) = false := by
    rw [beq_eq_false_iff_ne, ← Int.natCast_emod]; omega
  have hf3 : (((bytes.size : Int) % (wd : Int)) != 0) = true := by
    rw [bne_iff_ne, ← Int.natCast_emod]; omega
  have hb : Below w.heap.size w (w.alloc (.cells #[.slice none 0 0, .int .i64 12, .int .i64 bytes.size] 28)) := (Below.refl _ _).alloc (Nat.le_refl _) _
  clear h hf
  go_enter Tryd.func24, Tryd.ntmps24
  go_wp2_with fail
  refine bodyPost_ret (v := .agg #[.slice none 0 0, .int .i64 12, .int .i64 bytes.size]) ?_ rfl ⟨hb, rfl⟩
  simp [results, Tryd.f24, go_sem]

theorem badFrom_pos {bytes : ByteArray} {wd key n : Nat} : ∀ (m i r : Nat), badFrom bytes wd key n m i = some r → i ≤ r ∧ r < n
  | 0, i, r, h => by cases h
  | m + 1, i, r, h => by
    simp only [badFrom] at h
    split at h
    · split at h
      · have := badFrom_pos m (i + 1) r h; omega
      · cases h; omega
    · cases h

theorem GotSt.start (w : World) : GotSt w ((w.alloc (.cells #[.slice none 0 0, .int .i64 0, .int .i64 0] 28)).alloc (.cells #[.slice none 0 0, .int .i64 0, .int .i64 0] 28)) (.slice none 0 0) [] := by
  refine ⟨((Below.refl _ _).alloc (Nat.le_refl _) _).alloc (by simp) _, by simp, ?_, ?_, ?_, ?_, ?_, ?_, ?_, ?_, World.ownsRow_nil _ _ _ _⟩
  · rw [World.cell?_alloc_past _ _ _ (by simp)]; exact World.cell?_alloc_new w _ _ 0
  · rw [World.cell?_alloc_past _ _ _ (by simp)]; exact World.cell?_alloc_new w _ _ 1
  · rw [World.cell?_alloc_past _ _ _ (by simp)]; exact World.cell?_alloc_new w _ _ 2
  · intro i; simp
  · simp
  · simp
  · simp
  · intro i; simp

theorem GotSt.drewN {w wr : World} {v : Value} {rows : List ByteArray} (h : GotSt w wr v rows) (n : Nat) : GotSt w (wr.drewN n) v rows :=
  ⟨below_drewN h.b n, h.s, h.r0, h.r1, h.r2, h.f0, h.g0, h.g1, h.g2, h.e0, h.own⟩

theorem GotSt.grows {w W1 w2 : World} {v : Value} {rows : List ByteArray} {o : Obj} (h : GotSt w W1 v rows) (hg : (W1.alloc o).grownBy w2 v.ownBlock) : Below (w.heap.size + 2) W1 w2 :=
  ((Below.refl _ _).alloc h.s o).grown hg (by simp; have := h.s; omega) h.own.ge

theorem GotSt.pushed {w W1 w2 : World} {v v' : Value} {rows rows' : List ByteArray} (h : GotSt w W1 v rows) (hb : Below (w.heap.size + 2) W1 w2) (ho : OwnS w2 (w.heap.size + 2) v' rows') :
    GotSt w (w2.setCell ⟨w.heap.size + 1, 0, none⟩ v') v' rows' := by
  have hc : ∀ i j, j < 2 → w2.cell? ⟨w.heap.size + j, i, none⟩ = W1.cell? ⟨w.heap.size + j, i, none⟩ := fun i j hj => hb.cell (by show w.heap.size + j < _; omega)
  have hf : ∀ i j, j < 2 → w2.frozen? ⟨w.heap.size + j, i, none⟩ = W1.frozen? ⟨w.heap.size + j, i, none⟩ := fun i j hj => hb.frozen (by show w.heap.size + j < _; omega)
  refine ⟨(h.b.trans (hb.mono (by omega))).setCell (p := ⟨w.heap.size + 1, 0, none⟩) (by simp) _, by simpa using Nat.le_trans h.s hb.size, ?_, ?_, ?_, ?_, ?_, ?_, ?_, ?_, ?_⟩
  · rw [cell_set_other _ _ _ _ (by simp)]; exact (hc 0 0 (by omega)).trans h.r0
  · rw [cell_set_other _ _ _ _ (by simp)]; exact (hc 1 0 (by omega)).trans h.r1
  · rw [cell_set_other _ _ _ _ (by simp)]; exact (hc 2 0 (by omega)).trans h.r2
  · intro i; rw [free_set]; exact (hf i 0 (by omega)).trans (h.f0 i)
  · exact World.cell?_setCell_same' _ _ _ (by rw [hc 0 1 (by omega), h.g0]; rfl)
  · rw [World.cell?_setCell_other (h := by simp)]; exact (hc 1 1 (by omega)).trans h.g1
  · rw [World.cell?_setCell_other (h := by simp)]; exact (hc 2 1 (by omega)).trans h.g2
  · intro i; rw [free_set]; exact (hf i 1 (by omega)).trans (h.e0 i)
  · exact ownsRow_setCell_below ho (by show w.heap.size + 1 < _; omega) _

set_option maxHeartbeats 2000000 in
set_option maxRecDepth 100000 in
theorem refnew_rest (wd ky : Nat) (bytes : ByteArray) (w : World) (hs : bytes.size ≤ 1000000) (h : mayB wd ky = true) (hf : bytes.size % wd = 0) :
    Calls Tryd.prog 24 #[.int .i64 wd, .int .i64 ky, .string bytes] w (RefPost w (newE wd ky bytes) (rowsL bytes wd (bytes.size / wd))) := by
  have hmb := h
  simp only [mayB, Bool.and_eq_true, decide_eq_true_eq] at hmb
  obtain ⟨hk1, hk2, hw⟩ := hmb
  have ok : TabOk wd ky bytes (bytes.size / wd) := ⟨rfl, by omega, by omega, by omega, by omega, by omega⟩
  have H := Lib.hid (show newE wd ky bytes = (badFrom bytes wd ky (bytes.size / wd) (bytes.size / wd) 1).map fun i => (13, ((i * wd : Nat) : Int)) by unfold newE; rw [if_neg (by simp [h]), if_neg (by simp [hf])]; rfl)
  have hf2 : (((bytes.size : Int) % (wd : Int)) == 0) = true := by
    rw [beq_iff_eq, ← Int.natCast_emod]; omega
  have hf3 : (((bytes.size : Int) % (wd : Int)) != 0) = false := by
    rw [bne_eq_false_iff_eq, ← Int.natCast_emod]; omega
  have hdm : bytes.size / wd * wd = bytes.size := by have := Nat.div_add_mod bytes.size wd; rw [Nat.mul_comm]; omega
  generalize bytes.size / wd = n at *
  have hn := ok.nle
  have hn2 : n ≤ 1000000 := by have := Nat.le_mul_of_pos_right n (show 0 < wd by omega); omega
  clear h hf
  go_enter Tryd.func24, Tryd.ntmps24
  go_wp2_with fail
  have hst := GotSt.start w
  generalize (w.alloc (.cells #[.slice none 0 0, .int .i64 0, .int .i64 0] 28)).alloc (.cells #[.slice none 0 0, .int .i64 0, .int .i64 0] 28) = W0 at hst ⊢
  have HS0 := Lib.hid hst
  clear hst hf2 hf3
  go_loopw [8] (fun i wr => ∃ (k : Nat) (v : Value), i = .int .i64 ((k * wd : Nat) : Int) ∧ k ≤ n ∧ Hid (badFrom bytes wd ky n n 1 = badFrom bytes wd ky n (n + 1 - max k 1) (max k 1)) ∧ Hid (GotSt w wr v (rowsL bytes wd k))) (fun i _ => bytes.size + 300 - (intOf i).toNat)
  case atStart => exact ⟨0, _, by simp, by omega, by show _ = _; simp, HS0⟩
  case round =>
    obtain ⟨k, v, rfl, hk, HB, HG⟩ := hrel
    by_cases hlt : k < n
    · have hfit := row_fits ok hlt
      have hlt2 : ((k * wd : Nat) : Int) < (bytes.size : Int) := by omega
      have hg := HG.out
      obtain ⟨a7, cap7, rfl, hs7⟩ := hg.own.strs
      have hg0 := hg.g0
      rw [rowsL_length] at hg0
      obtain ⟨at_, hat⟩ : ∃ at_ : Nat, k * wd = at_ := ⟨_, rfl⟩
      rw [hat] at hfit hlt2
      rw [hat]
      clear hg
      go_upto_region 11 with fail
      have hrk : bytes.extract at_ (at_ + wd) = rowB bytes wd k := by unfold rowB; rw [hat]
      have hzk : (rowB bytes wd k).size = wd := by rw [← hrk, ByteArray.size_extract]; omega
      rw [hrk]
      clear hrk
      go_cut [64] (fun s64 wx => ∃ (m : Nat) (b : Bool), wx = wr.drewN m ∧ s64 = .bool b ∧ (b = true → 0 < k ∧ Op.bytesLess (keyB bytes wd ky (k - 1)).toList (keyB bytes wd ky k).toList = false) ∧ (b = false → k = 0 ∨ Op.bytesLess (keyB bytes wd ky (k - 1)).toList (keyB bytes wd ky k).toList = true))
      case first =>
        rcases Nat.eq_zero_or_pos k with h0 | hpos
        · have hn0 : ¬ 0 < k := by omega
          have HK0 := Lib.hid h0
          clear hs7 hat hlt2 hfit hzk h0
          go_quiet (fail)
          go_wp2_with fail
          go_meet
          exact ⟨_, false, rfl, rfl, (fun h => by cases h), fun _ => .inl HK0.out⟩
        · obtain ⟨j, hj⟩ : ∃ j, k = j + 1 := ⟨k - 1, by omega⟩
          obtain ⟨b, off, rfl, hc⟩ := hs7 j (by rw [rowsL_length]; omega)
          have hcj : wr.cell? ⟨b, off + j, none⟩ = some (.string (rowB bytes wd j)) := by rw [hc]; simp [rowsL]
          have hfj := row_fits ok (show j < n by omega)
          have hzj : (rowB bytes wd j).size = wd := by unfold rowB; rw [ByteArray.size_extract]; omega
          have hkj : (ky : Int) ≤ ((rowB bytes wd j).size : Int) := by omega
          have hkk : (ky : Int) ≤ ((rowB bytes wd k).size : Int) := by omega
          have hkm : (k : Int) - 1 = (j : Int) := by omega
          have hjk : j < k := by omega
          have HJ := Lib.hid hj
          clear hc hs7 hat hlt2 hfit hfj hj
          cases hbl : Op.bytesLess ((rowB bytes wd j).extract 0 ky).toList ((rowB bytes wd k).extract 0 ky).toList with
          | true =>
            have HBL : Hid (Op.bytesLess (keyB bytes wd ky j).toList (keyB bytes wd ky k).toList = true) := Lib.hid hbl
            go_quiet (fail)
            go_wp2_with fail
            go_meet
            rw [show k - 1 = j by have := HJ.out; omega]
            exact ⟨_, false, rfl, rfl, (fun h => by cases h), fun _ => .inr HBL.out⟩
          | false =>
            have HBL : Hid (Op.bytesLess (keyB bytes wd ky j).toList (keyB bytes wd ky k).toList = false) := Lib.hid hbl
            go_quiet (fail)
            go_wp2_with fail
            go_meet
            rw [show k - 1 = j by have := HJ.out; omega]
            exact ⟨_, true, rfl, rfl, fun _ => ⟨by omega, HBL.out⟩, fun h => by cases h⟩
      case rest =>
        obtain ⟨m, b, rfl, rfl, hbt, hbf⟩ := hcut
        have hG := HG.out.drewN m
        generalize wr.drewN m = W1 at hG ⊢
        have HG1 := Lib.hid hG
        have HBT := Lib.hid hbt
        have HBF := Lib.hid hbf
        obtain ⟨-, -, r0, r1, r2, f0, -, -, -, -, -⟩ := id hG
        have fr0 := f0 0
        have fr1 := f0 1
        have fr2 := f0 2
        have g0 := hG.g0
        rw [rowsL_length] at g0
        have ge := hG.e0 0
        have hown := hG.own
        rw [rowsL_length] at hown
        have HOWN := Lib.hid hown
        clear hG hbt hbf hs7 f0 hg0 hown
        cases b with
        | true =>
          have HE := Lib.hid (show newE wd ky bytes = some (13, (at_ : Int)) by
            obtain ⟨h1, h2⟩ := HBT.out rfl
            rw [H.out, HB.out, show max k 1 = k by omega, show n + 1 - k = (n - k) + 1 by omega]
            simp only [badFrom]
            rw [if_pos hlt, if_neg (by rw [h2]; simp), Option.map_some, hat])
          go_wp2_with fail
          refine bodyPost_ret (v := .agg #[.slice none 0 0, .int .i64 13, .int .i64 at_]) ?_ rfl ?_
          · simp [results, Tryd.f24, go_sem, r0, r1, r2]
          · rw [HE.out]
            exact ⟨((HG1.out.b.setCell (p := ⟨w.heap.size, 0, none⟩) (by simp) _).setCell (p := ⟨w.heap.size, 1, none⟩) (by simp) _).setCell (p := ⟨w.heap.size, 2, none⟩) (by simp) _, rfl⟩
        | false =>
          go_wp2_with (at_builtin; refine append_S rfl _ _ rfl (w.heap.size + 2) _ (rowsL bytes wd k) rfl (HOWN.out.alloc _) W1.heap.size 1 (rowB bytes wd k) rfl (by simp) (by rw [rowsL_length]; omega) (by have := HG1.out.s; simp; omega) ?_; intro v' w2 hown' hgrow; obtain ⟨a9, cap9, rfl, hs9⟩ := hown'.strs; (have hb9 := HG1.out.grows (by rw [rowsL_length]; exact hgrow)); (have gc9 := (hb9.cell (p := ⟨w.heap.size + 1, 0, none⟩) (by simp)).trans g0); (have gf9 := (hb9.frozen (p := ⟨w.heap.size + 1, 0, none⟩) (by simp)).trans ge))
          have hl9 : (rowsL bytes wd k).length + 1 = (rowsL bytes wd k ++ [rowB bytes wd k]).length := by simp
          rw [hl9]
          have hfin := HG1.out.pushed hb9 hown'
          rw [← rowsL_succ] at hfin ⊢
          refine ⟨⟨k + 1, by rw [← Int.natCast_mul, Nat.add_mul, hat, Nat.one_mul, Int.natCast_add], by omega, ?_, _, Lib.hid hfin⟩, by simp [intOf]; omega⟩
          show _ = _
          rw [HB.out]
          rcases HBF.out trivial with h0 | h1
          · subst h0; rfl
          · rcases Nat.eq_zero_or_pos k with h0 | hp
            · subst h0; rfl
            · rw [show max k 1 = k by omega, show max (k + 1) 1 = k + 1 by omega, show n + 1 - k = (n + 1 - (k + 1)) + 1 by omega]
              simp only [badFrom]
              rw [if_pos hlt, if_pos h1]
    · obtain rfl : k = n := by omega
      have HE := Lib.hid (show newE wd ky bytes = none by
        rw [H.out, HB.out]
        have : badFrom bytes wd ky k (k + 1 - max k 1) (max k 1) = none := by
          rcases hq : k + 1 - max k 1 with _ | q
          · rfl
          · simp only [badFrom]; rw [if_neg (by omega)]
        rw [this]; rfl)
      have hg := HG.out
      obtain ⟨a7, cap7, rfl, hs7⟩ := hg.own.strs
      have g0 := hg.g0
      have g1 := hg.g1
      have g2 := hg.g2
      have r0 := hg.r0
      have r1 := hg.r1
      have r2 := hg.r2
      have fr0 := hg.f0 0
      have fr1 := hg.f0 1
      have fr2 := hg.f0 2
      rw [hdm]
      clear hg hs7 hlt
      go_wp2_with fail
      have hbl : Below w.heap.size w (((wr.setCell ⟨w.heap.size, 0, none⟩ (.slice a7 (rowsL bytes wd k).length cap7)).setCell ⟨w.heap.size, 1, none⟩ (.int .i64 0)).setCell ⟨w.heap.size, 2, none⟩ (.int .i64 0)) :=
        ((HG.out.b.setCell (p := ⟨w.heap.size, 0, none⟩) (by simp) _).setCell (p := ⟨w.heap.size, 1, none⟩) (by simp) _).setCell (p := ⟨w.heap.size, 2, none⟩) (by simp) _
      have hown := ownsRow_setCell_below (ownsRow_setCell_below (ownsRow_setCell_below HG.out.own (a := ⟨w.heap.size, 0, none⟩) (by simp) (.slice a7 (rowsL bytes wd k).length cap7)) (a := ⟨w.heap.size, 1, none⟩) (by simp) (.int .i64 0)) (a := ⟨w.heap.size, 2, none⟩) (by simp) (.int .i64 0)
      refine bodyPost_ret (v := .agg #[.slice a7 (rowsL bytes wd k).length cap7, .int .i64 0, .int .i64 0]) ?_ rfl ?_
      · simp [results, Tryd.f24, go_sem, r0, r1, r2]
      · rw [HE.out]
        obtain ⟨a8, c8, e8, hs8⟩ := OwnS.strs hown
        cases e8
        exact ⟨hbl, a7, cap7, rfl, hs8⟩

/-- The document's answer to New. -/
theorem refnew_any (width key : Int) (bytes : ByteArray) (w : World) (hs : bytes.size ≤ 1000000) :
    Calls Tryd.prog 24 #[.int .i64 width, .int .i64 key, .string bytes] w (RefPost w (newE width key bytes) (rowsL bytes width.toNat (bytes.size / width.toNat))) := by
  cases h : mayB width key with
  | false =>
    have e : newE width key bytes = some (1, 0) := by unfold newE; rw [if_pos h]
    rw [e]
    exact refnew_arg width key bytes w h
  | true =>
    have hmb := h
    simp only [mayB, Bool.and_eq_true, decide_eq_true_eq] at hmb
    by_cases hf : bytes.size % width.toNat = 0
    · obtain ⟨wd, rfl⟩ := Int.eq_ofNat_of_zero_le (show 0 ≤ width by omega)
      obtain ⟨ky, rfl⟩ := Int.eq_ofNat_of_zero_le (show 0 ≤ key by omega)
      rw [Int.toNat_natCast] at hf ⊢
      exact refnew_rest wd ky bytes w hs h hf
    · have e : newE width key bytes = some (12, (bytes.size : Int)) := by unfold newE; rw [if_neg (by simp [h]), if_pos hf]
      rw [e]
      exact refnew_form width key bytes w (by omega) h hf

end Go.Proofs.YtfeikolfdggnfaaDoor
