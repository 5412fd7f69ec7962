/- Find: a table's row by its key. -/
import Derived.Test.YtfeikolfdggnfaaDoorTr
namespace Go.Proofs.YtfeikolfdggnfaaDoor
open Go.RowKit Go.Shelf

/-- What Find says, the first key that is not ahead standing at r. -/
def findV (bytes : ByteArray) (wd key n : Nat) (k : ByteArray) (r : Nat) : Value :=
  if r < n ∧ (keyB bytes wd key r).toList = k.toList then .tuple #[.string (rowB bytes wd r), .bool true] else .tuple #[.string ⟨#[]⟩, .bool false]

theorem begB_of_eq {s k : ByteArray} (h : s.toList = k.toList) : begB s k = true := by
  have hz : k.size = s.size := by
    have := congrArg List.length h
    rw [ByteArray.toList_eq, ByteArray.toList_eq] at this
    exact this.symm
  unfold begB
  rw [hz, extract_all s s.size (Nat.le_refl _), h]
  simp

theorem findV_none {bytes k : ByteArray} {wd key n r m : Nat} (h : runL bytes wd key n k (m + 1) r = []) : findV bytes wd key n k r = .tuple #[.string ⟨#[]⟩, .bool false] := by
  unfold findV
  rw [if_neg]
  rintro ⟨h1, h2⟩
  rw [runL_go (by omega) h1 (begB_of_eq h2)] at h
  cases h

theorem runL_head {bytes k : ByteArray} {wd key n r m i : Nat} {l : List Nat} (h : (i :: l) <+: runL bytes wd key n k (m + 1) r) : i = r ∧ r < n := by
  by_cases hc : r < n ∧ begB (keyB bytes wd key r) k = true
  · rw [runL_go (by omega) hc.1 hc.2] at h
    exact ⟨(List.cons_prefix_cons.1 h).1, hc.1⟩
  · rw [runL_stop hc] at h
    exact absurd (List.prefix_nil.1 h) (by simp)

set_option maxHeartbeats 1000000 in
set_option maxRecDepth 100000 in
theorem find_any (g wd key n : Nat) (bytes k : ByteArray) (w : World) (ok : TabOk wd key bytes n) (hk : k.size ≤ maxLen) (h : TabAt w g wd key bytes) :
    Calls Tryd.prog 21 #[.pointer (some ⟨g, 0, none⟩), .string k] w fun e w' => ∃ r : Nat, FromOf bytes wd key n k r ∧ e = .returned (findV bytes wd key n k r) ∧ Below w.heap.size w w' := by
  refine (callsIn_wide (n := 5)).1 ?_
  refine callsIn_of_wp_marks Tryd.func21 rfl trivial ?_ rfl
  simp only [Tryd.ntmps21, List.size_toArray, List.length_cons, List.length_nil, Nat.reduceAdd, Nat.reduceSub, Array.replicate_succ, Array.replicate_zero, List.push_toArray, List.append_toArray, List.nil_append, List.cons_append]
  have hFf : ∀ f, Fence.wide.fn f := fun _ => trivial
  have hFd : Fence.wide.depth = none := rfl
  have HT := Lib.hid h
  clear h
  obtain ⟨W, hWe⟩ : ∃ W, (((w.alloc (.cells #[.pointer (some ⟨g, 0, none⟩)] 31)).alloc (.cells #[.string k] 9)).alloc (.cells #[.string ⟨#[]⟩] 9)).alloc (.cells #[.bool false] 4) = W := ⟨_, rfl⟩
  have hbx : BoxesAt w W [(.pointer (some ⟨g, 0, none⟩), 31), (.string k, 9), (.string ⟨#[]⟩, 9), (.bool false, 4)] := by rw [← hWe]; exact boxes4 _ _ _ _ _ _ _ _ _
  have hbW := hbx.below
  have hzW : W.heap.size = w.heap.size + 1 + 1 + 1 + 1 := hbx.size
  have hc1 : W.cell? ⟨w.heap.size, 0, none⟩ = some (.pointer (some ⟨g, 0, none⟩)) := hbx.cell 0 _ rfl
  have hc2 : W.cell? ⟨w.heap.size + 1, 0, none⟩ = some (.string k) := hbx.cell 1 _ rfl
  have hc3 : W.cell? ⟨w.heap.size + 1 + 1, 0, none⟩ = some (.string ⟨#[]⟩) := hbx.cell 2 _ rfl
  have hc4 : W.cell? ⟨w.heap.size + 1 + 1 + 1, 0, none⟩ = some (.bool false) := hbx.cell 3 _ rfl
  have hf3 : W.frozen? ⟨w.heap.size + 1 + 1, 0, none⟩ = false := hbx.free 2 _ rfl
  have hf4 : W.frozen? ⟨w.heap.size + 1 + 1 + 1, 0, none⟩ = false := hbx.free 3 _ rfl
  clear hbx
  have hgw : g < w.heap.size := World.block_lt_of_cell? w _ HT.out.c0
  have hTW := HT.out.below hbW
  have HWE := Lib.hid hWe
  have HBW := Lib.hid hbW
  have HZW := Lib.hid hzW
  clear hWe hbW hzW HT
  gi_wp2_with fail
  rw [HWE.out]
  clear HWE
  refine (callsIn_wide.2 (prefix_any g k W)).mono ?_
  rintro e w1 ⟨rfl, hw1⟩
  rw [HZW.out]
  have hbW1 : Below W.heap.size W w1 := by rw [← hw1]; exact ((Below.refl _ _).alloc (Nat.le_refl _) _).alloc (by simp) _
  have hz1 : w1.heap.size = w.heap.size + 1 + 1 + 1 + 1 + 2 := by rw [← hw1, ← HZW.out]; simp
  have hd1 : w1.cell? ⟨w.heap.size + 1 + 1 + 1 + 1, 0, none⟩ = some (.pointer (some ⟨g, 0, none⟩)) := by rw [← hw1, ← HZW.out]; simp
  have hd2 : w1.cell? ⟨w.heap.size + 1 + 1 + 1 + 1 + 1, 0, none⟩ = some (.string k) := by rw [← hw1, ← HZW.out]; simp
  clear hw1
  have hT1 := hTW.below hbW1
  have hlt : ∀ {a : Addr} {v : Value}, W.cell? a = some v → w1.cell? a = some v := fun h => (hbW1.cell (World.block_lt_of_cell? W _ h)).trans h
  have hfz : ∀ {a : Addr} {v : Value}, W.cell? a = some v → W.frozen? a = false → w1.frozen? a = false := fun h h2 => (hbW1.frozen (World.block_lt_of_cell? W _ h)).trans h2
  have hf3' := hfz hc3 hf3
  have hf4' := hfz hc4 hf4
  replace hc1 := hlt hc1
  replace hc2 := hlt hc2
  replace hc3 := hlt hc3
  replace hc4 := hlt hc4
  have HB1 := Lib.hid (HBW.out.trans (hbW1.mono HBW.out.size))
  have HZ1 := Lib.hid hz1
  clear hlt hfz hf3 hf4 hbW1 hz1 hTW HBW HZW W
  gi_wp2_with fail
  have hgw1 : g < w1.heap.size := World.block_lt_of_cell? w1 _ hT1.c0
  have hseq := prefix1_seq 4 w1.heap.size g wd key n bytes k ⟨w.heap.size + 1 + 1 + 1 + 1, 0, none⟩ ⟨w.heap.size + 1 + 1 + 1 + 1 + 1, 0, none⟩ w1 ok hk hT1 hd1 hd2 hgw1 (World.block_lt_of_cell? w1 _ hd1) (World.block_lt_of_cell? w1 _ hd2) (Nat.le_refl _)
  refine wpIn_rangeFunc_ownF (α := { i : Nat // i < n }) rfl (by omega) (gf := 36) (lb := #[.pointer (some ⟨w.heap.size + 1 + 1 + 1 + 1, 0, none⟩), .pointer (some ⟨w.heap.size + 1 + 1 + 1 + 1 + 1, 0, none⟩)]) rfl trivial (enters_of Tryd.func36 (by kernel_rfl) rfl) hseq belowK_t (belowK_b (Nat.le_refl _)) (Below.refl _ _) (fun _ => rfl)
    (fun pre W => pre = [] ∧ Below w1.heap.size w1 W)
    (fun c pre W => ∃ (i : { i : Nat // i < n }), pre = [i] ∧ Below w.heap.size w W ∧
      ((c = .ret ∧ (keyB bytes wd key i.val).toList = k.toList ∧ W.cell? ⟨w.heap.size + 1 + 1, 0, none⟩ = some (.string (rowB bytes wd i.val)) ∧ W.cell? ⟨w.heap.size + 1 + 1 + 1, 0, none⟩ = some (.bool true)) ∨
       (c = .exit 0 ∧ (keyB bytes wd key i.val).toList ≠ k.toList ∧ Below w1.heap.size w1 W)))
    ?own ?ownx ⟨rfl, Below.refl _ _⟩
    (fun x => { tmps := #[.pointer (some ⟨g, 0, none⟩), .string k, .pointer (some ⟨w.heap.size, 0, none⟩), .pointer (some ⟨w.heap.size + 1, 0, none⟩), .pointer (some ⟨w.heap.size + 1 + 1, 0, none⟩), .pointer (some ⟨w.heap.size + 1 + 1 + 1, 0, none⟩), undef, .string (rowB bytes wd x.val), .pointer (some ⟨g, 0, none⟩), .string k,
      .func (.func 36) #[] #[.pointer (some ⟨w.heap.size + 1 + 1 + 1 + 1, 0, none⟩), .pointer (some ⟨w.heap.size + 1 + 1 + 1 + 1 + 1, 0, none⟩)], .int .i64 (x.val : Int), .string (rowB bytes wd x.val), undef, undef, undef, undef, undef, undef, undef, undef, undef], defers := [] }) ?assign ?body ?done ?stop
  case own => exact fun s W W' row hs hg hr => ⟨hs.1, hs.2.grown hg hs.2.size (fun k e => (hr k e).1)⟩
  case ownx =>
    rintro c s W W' row ⟨i, h1, h2, h3⟩ hg hr
    refine ⟨i, h1, h2.grown hg h2.size (fun k e => by have := (hr k e).1; have := HZ1.out; omega), h3.imp (fun ⟨a, b, c, d⟩ => ⟨a, b, cell_kept c hg (fun r e => (hr r e).2), cell_kept d hg (fun r e => (hr r e).2)⟩) (fun ⟨a, b, c⟩ => ⟨a, b, c.grown hg c.size (fun k e => (hr k e).1)⟩)⟩
  case assign =>
    intro l x W K hK
    unfold encRow
    gi_wp2_with (rw [Oper.semAt_eq _ _ _ (fun c h => by cases h)]; go_simp; try go_bits)
    exact hK
  case body =>
    rintro l pre x W ⟨rfl, hb⟩ _
    have hkey : (key : Int) ≤ ((rowB bytes wd x.val).size : Int) := by have h1 := row_fits ok x.2; have := ok.hk2; simp [rowB]; omega
    have hTx := hT1.below hb
    have hx0 := hTx.c1
    have hx1 : W.cell? ⟨w.heap.size, 0, none⟩ = some (.pointer (some ⟨g, 0, none⟩)) := (hb.cell (World.block_lt_of_cell? w1 _ hc1)).trans hc1
    have hx2 : W.cell? ⟨w.heap.size + 1, 0, none⟩ = some (.string k) := (hb.cell (World.block_lt_of_cell? w1 _ hc2)).trans hc2
    have hx3 : W.cell? ⟨w.heap.size + 1 + 1, 0, none⟩ = some (.string ⟨#[]⟩) := (hb.cell (World.block_lt_of_cell? w1 _ hc3)).trans hc3
    have hx4 : W.cell? ⟨w.heap.size + 1 + 1 + 1, 0, none⟩ = some (.bool false) := (hb.cell (World.block_lt_of_cell? w1 _ hc4)).trans hc4
    have hx5 : W.frozen? ⟨w.heap.size + 1 + 1, 0, none⟩ = false := (hb.frozen (World.block_lt_of_cell? w1 _ hc3)).trans hf3'
    have hx6 : W.frozen? ⟨w.heap.size + 1 + 1 + 1, 0, none⟩ = false := (hb.frozen (World.block_lt_of_cell? w1 _ hc4)).trans hf4'
    have HB := Lib.hid hb
    clear hb hc1 hc2 hc3 hc4 hf3' hf4' hd1 hd2 hseq hT1 hTx
    gi_wp2_with fail
    refine wpIn_round_quiet_lit (by kernel_rfl) (by kernel_rfl) (by kernel_rfl) ?_
    repeat (gi_big_quiet_step (fail))
    refine wpQuietIn_nil ?_
    intro _ hw'
    obtain ⟨nq, rfl⟩ := hw'
    have hbq : Below w1.heap.size w1 (W.drewN nq) := below_drewN HB.out nq
    have HBQ := Lib.hid hbq
    clear hbq
    cases hkk : ((rowB bytes wd x.val).extract 0 key).toList == k.toList
    · have HK := Lib.hid hkk
      clear hkk
      gi_wp2_with (rw [Oper.semAt_eq _ _ _ (fun c h => by cases h)]; go_simp; try go_bits)
      refine ⟨keepsOthers_drewN _ _, x, rfl, HB1.out.trans (HBQ.out.mono HB1.out.size), .inr ⟨rfl, ?_, HBQ.out⟩⟩
      have := HK.out
      simpa [keyB] using this
    · have HK := Lib.hid hkk
      clear hkk
      gi_wp2_with (rw [Oper.semAt_eq _ _ _ (fun c h => by cases h)]; go_simp; try go_bits)
      have hb4 : w.heap.size ≤ w.heap.size + 1 + 1 := by omega
      have hb5 : w.heap.size ≤ w.heap.size + 1 + 1 + 1 := by omega
      refine ⟨((keepsOthers_drewN _ _).trans (KeepsOthers.setCell _ _ _)).trans (KeepsOthers.setCell _ _ _), x, rfl, ((HB1.out.trans (HBQ.out.mono HB1.out.size)).setCell (p := ⟨w.heap.size + 1 + 1, 0, none⟩) hb4 _).setCell (p := ⟨w.heap.size + 1 + 1 + 1, 0, none⟩) hb5 _, .inl ⟨rfl, ?_, ?_, ?_⟩⟩
      · have := HK.out
        simpa [keyB] using this
      · rw [cell_set_other _ _ _ _ (by simp)]
        exact World.cell?_setCell_same' _ _ _ (by rw [World.cell?_drewN, hx3]; rfl)
      · exact World.cell?_setCell_same' _ _ _ (by rw [cell_set_other _ _ _ _ (by simp), World.cell?_drewN, hx4]; rfl)
  case done =>
    rintro D xs W hD ⟨r, hr, hxs⟩ ⟨rfl, hb⟩ hK
    have hx3 : W.cell? ⟨w.heap.size + 1 + 1, 0, none⟩ = some (.string ⟨#[]⟩) := (hb.cell (World.block_lt_of_cell? w1 _ hc3)).trans hc3
    have hx4 : W.cell? ⟨w.heap.size + 1 + 1 + 1, 0, none⟩ = some (.bool false) := (hb.cell (World.block_lt_of_cell? w1 _ hc4)).trans hc4
    have hx5 : W.frozen? ⟨w.heap.size + 1 + 1, 0, none⟩ = false := (hb.frozen (World.block_lt_of_cell? w1 _ hc3)).trans hf3'
    have hx6 : W.frozen? ⟨w.heap.size + 1 + 1 + 1, 0, none⟩ = false := (hb.frozen (World.block_lt_of_cell? w1 _ hc4)).trans hf4'
    have HB := Lib.hid hb
    have HK := Lib.hid hK
    clear hb hK hc1 hc2 hc3 hc4 hf3' hf4' hd1 hd2 hseq hT1
    have FV := findV_none hxs.symm
    gi_wp2
    have hb4 : w.heap.size ≤ w.heap.size + 1 + 1 := by omega
    have hb5 : w.heap.size ≤ w.heap.size + 1 + 1 + 1 := by omega
    have hD2 : w.heap.size ≤ D := by have := HZ1.out; omega
    have hK2 := (((KeepsOthers.setCell W ⟨w.heap.size + 1 + 1, 0, none⟩ (.string ⟨#[]⟩)).trans (KeepsOthers.setCell _ ⟨w.heap.size + 1 + 1 + 1, 0, none⟩ (.bool false))).same D _ HK.out rfl)
    have hB2 := ((HB1.out.trans (HB.out.mono HB1.out.size)).setCell (p := ⟨w.heap.size + 1 + 1, 0, none⟩) hb4 (.string ⟨#[]⟩)).setCell (p := ⟨w.heap.size + 1 + 1 + 1, 0, none⟩) hb5 (.bool false)
    refine leave_mark (v := .tuple #[.string ⟨#[]⟩, .bool false]) hK2 ?_ ⟨r, hr, by rw [FV], below_putObj hB2 hB2.size hD2 _⟩
    have hv1 := cell_putObj hK2 (a := ⟨w.heap.size + 1 + 1, 0, none⟩) (v := .string ⟨#[]⟩) (by rw [cell_set_other _ _ _ _ (by simp)]; exact World.cell?_setCell_same' _ _ _ (by rw [hx3]; rfl))
    have hv2 := cell_putObj hK2 (a := ⟨w.heap.size + 1 + 1 + 1, 0, none⟩) (v := .bool false) (World.cell?_setCell_same' _ _ _ (by rw [cell_set_other _ _ _ _ (by simp), hx4]; rfl))
    simp [results, Tryd.f21, go_sem, hv1, hv2]
  case stop =>
    rintro D c pre W hD ⟨r, hr, hne, hpre⟩ ⟨i, rfl, hb0, ⟨rfl, hk1, hv1, hv2⟩ | ⟨rfl, hk1, hb⟩⟩ hK
    · obtain ⟨rfl, hri⟩ := runL_head hpre
      have FV : findV bytes wd key n k i.val = .tuple #[.string (rowB bytes wd i.val), .bool true] := by unfold findV; rw [if_pos ⟨hri, hk1⟩]
      have HK := Lib.hid hK
      have HV := Lib.hid FV
      have HV1 := Lib.hid hv1
      have HV2 := Lib.hid hv2
      clear FV hc1 hc2 hc3 hc4 hf3' hf4' hd1 hd2 hseq hT1 hK hv1 hv2
      gi_wp2
      have hD2 : w.heap.size ≤ D := by have := HZ1.out; omega
      refine leave_mark (v := .tuple #[.string (rowB bytes wd i.val), .bool true]) HK.out ?_ ⟨i.val, hr, by rw [HV.out], below_putObj hb0 hb0.size hD2 _⟩
      have hv1 := cell_putObj HK.out HV1.out
      have hv2 := cell_putObj HK.out HV2.out
      simp [results, Tryd.f21, go_sem, hv1, hv2]
    · have hx3 : W.cell? ⟨w.heap.size + 1 + 1, 0, none⟩ = some (.string ⟨#[]⟩) := (hb.cell (World.block_lt_of_cell? w1 _ hc3)).trans hc3
      have hx4 : W.cell? ⟨w.heap.size + 1 + 1 + 1, 0, none⟩ = some (.bool false) := (hb.cell (World.block_lt_of_cell? w1 _ hc4)).trans hc4
      have hx5 : W.frozen? ⟨w.heap.size + 1 + 1, 0, none⟩ = false := (hb.frozen (World.block_lt_of_cell? w1 _ hc3)).trans hf3'
      have hx6 : W.frozen? ⟨w.heap.size + 1 + 1 + 1, 0, none⟩ = false := (hb.frozen (World.block_lt_of_cell? w1 _ hc4)).trans hf4'
      have HB := Lib.hid hb
      have HK := Lib.hid hK
      clear hb hK hc1 hc2 hc3 hc4 hf3' hf4' hd1 hd2 hseq hT1
      have FV : findV bytes wd key n k r = .tuple #[.string ⟨#[]⟩, .bool false] := by
        obtain ⟨rfl, hri⟩ := runL_head hpre
        unfold findV; rw [if_neg (fun h => hk1 h.2)]
      have HV := Lib.hid FV
      clear FV hk1
      gi_wp2
      have hb4 : w.heap.size ≤ w.heap.size + 1 + 1 := by omega
      have hb5 : w.heap.size ≤ w.heap.size + 1 + 1 + 1 := by omega
      have hD2 : w.heap.size ≤ D := by have := HZ1.out; omega
      have hK2 := (((KeepsOthers.setCell W ⟨w.heap.size + 1 + 1, 0, none⟩ (.string ⟨#[]⟩)).trans (KeepsOthers.setCell _ ⟨w.heap.size + 1 + 1 + 1, 0, none⟩ (.bool false))).same D _ HK.out rfl)
      have hB2 := ((HB1.out.trans (HB.out.mono HB1.out.size)).setCell (p := ⟨w.heap.size + 1 + 1, 0, none⟩) hb4 (.string ⟨#[]⟩)).setCell (p := ⟨w.heap.size + 1 + 1 + 1, 0, none⟩) hb5 (.bool false)
      refine leave_mark (v := .tuple #[.string ⟨#[]⟩, .bool false]) hK2 ?_ ⟨r, hr, by rw [HV.out], below_putObj hB2 hB2.size hD2 _⟩
      have hv1 := cell_putObj hK2 (a := ⟨w.heap.size + 1 + 1, 0, none⟩) (v := .string ⟨#[]⟩) (by rw [cell_set_other _ _ _ _ (by simp)]; exact World.cell?_setCell_same' _ _ _ (by rw [hx3]; rfl))
      have hv2 := cell_putObj hK2 (a := ⟨w.heap.size + 1 + 1 + 1, 0, none⟩) (v := .bool false) (World.cell?_setCell_same' _ _ _ (by rw [cell_set_other _ _ _ _ (by simp), hx4]; rfl))
      simp [results, Tryd.f21, go_sem, hv1, hv2]

end Go.Proofs.YtfeikolfdggnfaaDoor
