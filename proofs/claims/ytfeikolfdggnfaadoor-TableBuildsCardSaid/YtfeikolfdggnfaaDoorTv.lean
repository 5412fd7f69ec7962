/- TableOrder, walked. -/
import Derived.Test.YtfeikolfdggnfaaDoorTu
import Derived.Test.YtfeikolfdggnfaaDoorTq
import Derived.Deep.DeepCutAuto
namespace Go.Proofs.YtfeikolfdggnfaaDoor
open Go.RowKit Go.Shelf

/-- The law's numbers, in a box of its own. -/
structure BoxQ (w W : World) (cs : List Value) : Prop where
  b : Below w.heap.size w W
  s : w.heap.size + 1 ≤ W.heap.size
  c : ∀ (i : Nat) (v : Value), cs[i]? = some v → W.cell? ⟨w.heap.size, i, none⟩ = some v

theorem BoxQ.next {w W W' : World} {cs : List Value} (h : BoxQ w W cs) (hb : Below W.heap.size W W') : BoxQ w W' cs :=
  ⟨h.b.trans (hb.mono h.b.size), Nat.le_trans h.s hb.size, fun i v hv => (hb.cell (World.block_lt_of_cell? W _ (h.c i v hv))).trans (h.c i v hv)⟩

theorem BoxQ.start (w : World) (cs : List Value) (t : TypeId) : BoxQ w (w.alloc (.cells cs.toArray t)) cs :=
  ⟨(Below.refl _ _).alloc (Nat.le_refl _) _, by simp, fun i v hv => by rw [World.cell?_alloc_new]; simpa using hv⟩

theorem rows_of {l xs : List ByteArray} {wd : Nat} (h9 : wd ≤ 9) (h : RowsOf (fewL (l.take 12)) wd 0 (fewL (l.take 12)).length xs) : xs = (fewL (l.take 12)).map (fillW wd) ∧ (∀ x ∈ xs, x.size = wd) ∧ xs.length ≤ 12 := by
  have h1 := h.fill rfl (by omega)
  rw [List.take_length] at h1
  refine ⟨h1, ?_, ?_⟩
  · intro x hx
    rw [h1] at hx
    obtain ⟨y, _, rfl⟩ := List.mem_map.1 hx
    unfold fillW
    rw [if_neg (by omega), Int.toNat_natCast, ByteArray.size_extract, ByteArray.size_append]
    have : nines.size = 9 := rfl
    omega
  · rw [h.len]; simp [fewL]; omega

set_option maxHeartbeats 2000000 in
set_option maxRecDepth 100000 in
theorem order_any (a : Option Addr) (cap : Nat) (l : List ByteArray) (q0 q1 q2 : Int) (w : World) (hv : ErrVar w) (hl : l.length ≤ 9223372036854775807) (hz : ∀ x ∈ l, x.size ≤ maxLen) (h : StrsAt w a l) :
    Calls Tryd.prog 5 #[.slice a l.length cap, .agg #[.int .i64 q0, .int .i64 q1, .int .i64 q2]] w fun e w' => e = .returned (.bool true) ∧ Below w.heap.size w w' := by
  have HV := Lib.hid hv
  have HS := Lib.hid h
  have HL := Lib.hid hl
  have HZ := Lib.hid hz
  clear hv h hl hz
  go_enter Tryd.func5, Tryd.ntmps5
  go_wp2_with fail
  refine (awake_any _).mono ?_
  rintro e W1 ⟨rfl, hb1⟩
  have hS1 := (BoxQ.start w [.int .i64 q0, .int .i64 q1, .int .i64 q2] 47).next hb1
  have H1 := Lib.hid hS1
  clear hb1
  have d0 := hS1.c 0 _ rfl
  clear hS1
  go_wp2_with fail
  refine (rest_any q0 9 W1 (by omega) (by omega)).mono ?_
  rintro e W2 ⟨rfl, m1, rfl⟩
  have hw0 : 0 ≤ q0 % 9 := Int.emod_nonneg _ (by omega)
  have hw9 : q0 % 9 < 9 := Int.emod_lt_of_pos _ (by omega)
  have hS2 := H1.out.next (below_drewN (Below.refl _ _) m1)
  have d1 := hS2.c 1 _ rfl
  have H2 := Lib.hid hS2
  clear hS2 d0
  go_wp2_with fail
  obtain ⟨wd, hwd⟩ : ∃ wd : Nat, 1 + q0 % 9 = (wd : Int) := ⟨(1 + q0 % 9).toNat, by omega⟩
  have hw1 : 1 ≤ wd := by omega
  have hw10 : wd ≤ 9 := by omega
  rw [hwd]
  clear hwd hw0 hw9
  refine (rest_any q1 wd _ (by omega) (by omega)).mono ?_
  rintro e W3 ⟨rfl, m2, rfl⟩
  have hw0 : 0 ≤ q1 % (wd : Int) := Int.emod_nonneg _ (by omega)
  have hw9 : q1 % (wd : Int) < wd := Int.emod_lt_of_pos _ (by omega)
  have hS3 := H2.out.next (below_drewN (Below.refl _ _) m2)
  generalize hW3 : (W1.drewN m1).drewN m2 = W3 at hS3
  simp only [World.drewN_drewN] at hW3 ⊢
  try rw [hW3]
  have H3 := Lib.hid hS3
  clear hS3 d1 hW3
  go_wp2_with fail
  obtain ⟨ky, hky⟩ : ∃ ky : Nat, 1 + q1 % (wd : Int) = (ky : Int) := ⟨(1 + q1 % (wd : Int)).toNat, by omega⟩
  have hk1 : 1 ≤ ky := by omega
  have hk2 : ky ≤ wd := by omega
  rw [hky]
  clear hky hw0 hw9
  refine (rows_any a cap l _ wd 0 HL.out HZ.out (HS.out.below H3.out.b)).mono ?_
  rintro e W4 ⟨v4, xs, rfl, hown, hb4, hR⟩
  obtain ⟨hxs, hxz, hxl⟩ := rows_of hw10 hR
  have H4 := Lib.hid (H3.out.next hb4)
  have HX := Lib.hid hxz
  obtain ⟨a4, cap4, rfl, hs4⟩ := hown.strs
  have hcap4 : xs.length ≤ cap4 := hown.cap _ _ _ rfl
  have HS4 := Lib.hid hs4
  have d2 := H4.out.c 2 _ rfl
  clear hb4 hR hxs hxz hs4 hown
  go_upto_if 37 with fail
  go_cut [9] (fun s9 wx => ∃ k : Nat, k ≤ xs.length ∧ s9 = .int .i64 k ∧ Below W4.heap.size W4 wx)
  case first =>
    rcases Nat.eq_zero_or_pos xs.length with he | he
    · go_wp2_with fail
      go_meet
      exact ⟨0, by omega, rfl, Below.refl _ _⟩
    · go_wp2_with fail
      refine (rest_any q2 xs.length W4 (by omega) (by omega)).mono ?_
      rintro e W5 ⟨rfl, m3, rfl⟩
      have hw0 : 0 ≤ q2 % (xs.length : Int) := Int.emod_nonneg _ (by omega)
      have hw9 : q2 % (xs.length : Int) < xs.length := Int.emod_lt_of_pos _ (by omega)
      go_wp2_with fail
      go_meet
      exact ⟨(q2 % (xs.length : Int)).toNat, by omega, by congr 1; omega, below_drewN (Below.refl _ _) _⟩
  case rest =>
  obtain ⟨k, hk, rfl, hb5⟩ := hcut
  generalize wc = W5 at hb5 ⊢
  have H5 := Lib.hid (H4.out.next hb5)
  have HS5 := Lib.hid (HS4.out.below hb5)
  clear hb5 d2
  go_upto_region 8 with fail
  go_cut [10] (fun s10 wx => ∃ a6 cap6, s10 = .slice a6 xs.length cap6 ∧ StrsAt wx a6 (xs.drop k ++ xs.take k) ∧ Below W5.heap.size W5 wx)
  case first =>
    have hsl := hcap4
    have hsl2 : k ≤ cap4 := by omega
    refine wp_region_any (by kernel_rfl) ?_
    refine wpAny_take (i := 1) (v := ?_) rfl (by kernel_rfl) (by kernel_rfl) (by kernel_rfl) (fun _ _ _ h => h) (Or.inl ⟨by rfl, by intro w; go_simp; rfl⟩) ?_
    refine wpAny_take (i := 2) (v := ?_) rfl (by kernel_rfl) (by kernel_rfl) (by kernel_rfl) (fun _ _ _ h => h) (Or.inl ⟨by rfl, by intro w; go_simp; rfl⟩) ?_
    refine wpAny_take (i := 3) (v := ?_) rfl (by kernel_rfl) (by kernel_rfl) (by kernel_rfl) (fun _ _ _ h => h) (Or.inl ⟨by rfl, by intro w; go_simp; rfl⟩) ?_
    refine wpAny_take (i := 5) (v := ?_) rfl (by kernel_rfl) (by kernel_rfl) (by kernel_rfl) (fun _ _ _ h => h) (Or.inl ⟨by rfl, by intro w; go_simp; rfl⟩) ?_
    refine wpAny_take (i := 6) (v := ?_) rfl (by kernel_rfl) (by kernel_rfl) (by kernel_rfl) (fun _ _ _ h => h) (Or.inl ⟨by rfl, by intro w; go_simp; rfl⟩) ?_
    refine wpAny_take (i := 7) (v := ?_) rfl (by kernel_rfl) (by kernel_rfl) (by kernel_rfl) (fun _ _ _ h => h) (Or.inl ⟨by rfl, by intro w; go_simp; rfl⟩) ?_
    clear hsl hsl2
    have hx5 := HS5.out.behind k cap4 hk hcap4
    generalize (if cap4 = k then a4 else a4.map (·.add k)) = y6 at hx5 ⊢
    change wpAny _ _ _ _ _ _ _ (World.drew W5)
    refine wpAny_ready (rs := [0]) (by kernel_rfl) (by simp) ?_
    refine AllReady.cons rfl (fun K hK => ?_) AllReady.nil
    go_simp
    refine hK _ _ ?_
    clear hK K
    have hb6 : Below W5.heap.size W5 (W5.alloc (.cells #[] 9)).drew := ((Below.refl _ _).alloc (Nat.le_refl _) _).drew
    have hr6 : RowS (W5.alloc (.cells #[] 9)).drew W5.heap.size (.slice (some ⟨W5.heap.size, 0, none⟩) 0 0) [] := row_new W5 W5.heap.size (Nat.le_refl _)
    have hx6 := hx5.below hb6
    have hx7 := HS5.out.upto k cap4 hk
    refine wpAny_ready (rs := [4]) (by kernel_rfl) (by simp) ?_
    refine AllReady.cons rfl (fun K hK => ?_) AllReady.nil
    rw [if_pos (by rfl)]
    refine append_op _ _ rfl W5.heap.size _ [] _ (by rfl) hr6 (by exact hx6) (by simp; omega) hb6.size ?_
    intro v7 W7 hr7 hg7
    refine hK _ _ ?_
    clear hK K
    rw [List.nil_append] at hr7
    have hb7 : Below W5.heap.size W5 W7 := hb6.grown hg7 hb6.size (fun r e => by cases e; exact Nat.le_refl _)
    refine wpAny_ready (rs := [8]) (by kernel_rfl) (by simp) ?_
    refine AllReady.cons rfl (fun K hK => ?_) AllReady.nil
    rw [if_pos (by rfl)]
    refine append_op _ _ rfl W5.heap.size _ _ _ (by rfl) hr7 (by exact hx7.below hb7) (by simp; omega) hb7.size ?_
    intro v8 W8 hr8 hg8
    refine hK _ _ ?_
    clear hK K
    have hb8 : Below W5.heap.size W5 W8 := hb7.grown hg8 hb7.size hr7.1.ge
    refine wpAny_take (i := 9) (v := ?_) rfl (by kernel_rfl) (by kernel_rfl) (by kernel_rfl) (fun _ _ _ h => h) (Or.inl ⟨by rfl, by intro w; go_simp; rfl⟩) ?_
    refine wpAny_done (by kernel_rfl) ?_ _
    obtain ⟨a8, c8, rfl, hs8⟩ := hr8.1.strs
    have hl8 : (xs.drop k ++ xs.take k).length = xs.length := by simp; omega
    rw [hl8]
    go_simp
    go_wp2_with fail
    go_meet
    exact ⟨a8, c8, rfl, hs8, hb8⟩
  case rest =>
  obtain ⟨a6, cap6, rfl, hs6, hb6⟩ := hcut
  generalize wc = W6 at hs6 hb6 ⊢
  have H6 := Lib.hid (H5.out.next hb6)
  have hs4 := HS5.out.below hb6
  have hm : mayB wd ky = true := by simp [mayB]; omega
  have hT := HX.out
  have hz6 : ∀ x ∈ xs.drop k ++ xs.take k, x.size = wd := fun x hx => by
    rcases List.mem_append.1 hx with h | h
    · exact hT x (List.mem_of_mem_drop h)
    · exact hT x (List.mem_of_mem_take h)
  have hp6 : (xs.drop k ++ xs.take k).Perm xs := List.perm_append_comm.trans (by rw [List.take_append_drop])
  have hl6 : (xs.drop k ++ xs.take k).length = xs.length := hp6.length_eq
  have HBa := Lib.hid ((build_tab wd ky a4 cap4 xs W6 hs4 (by omega) (fun x hx => by rw [hT x hx]; omega)).mono fun e w' h => h.ok hm hT (by omega))
  generalize xs.drop k ++ xs.take k = zs at hs6 hz6 hp6 hl6
  have HBb := Lib.hid (fun (W : World) (hb : Below W6.heap.size W6 W) => (build_tab wd ky a6 cap6 zs W (hs6.below hb) (by omega) (fun x hx => by rw [hz6 x hx]; omega)).mono fun e w' h => h.ok hm hz6 (by omega))
  rw [hl6] at HBb
  clear hb6 hs4 hs6 hT HX HS4 HS5 HS HL HZ
  go_wp2_with fail
  refine HBa.out.mono ?_
  rintro e W7 ⟨hb7, ys, hpy, hso, hend⟩
  have HBb7 := Lib.hid (HBb.out W7 hb7)
  have H7 := Lib.hid (H6.out.next hb7)
  rcases hend with ⟨g, hg, hri, rfl, hTa, hok⟩ | ⟨g, at1, hg, hri, rfl, hfa⟩
  · clear hb7
    have HTa := Lib.hid hTa
    have HOK := Lib.hid hok
    clear hTa hok
    go_wp2_with fail
    refine HBb7.out.mono ?_
    rintro e W8 ⟨hb8, ys2, hpy2, hso2, hend⟩
    have h12 : ys2 = ys := rising_unique (hpy2.trans (hp6.trans hpy.symm)) hso2 hri
    rcases hend with ⟨g2, hg2, hri2, rfl, hTb, hok2⟩ | ⟨g2, at2, hg2, hri2, rfl, hfa⟩
    · subst h12
      have H8 := Lib.hid (H7.out.next hb8)
      have hTa8 := HTa.out.below hb8
      have hyz : ∀ x ∈ ys2, x.size = wd := fun x hx => hz6 x (hpy2.mem_iff.1 hx)
      have hyl : ys2.length = xs.length := hpy.length_eq
      have hnew : newE wd ky (catB ys2) = none := (newE_rising hyz hm).2 hri
      have hbl : (catB ys2).size ≤ 140737488355328 := hok2.hs
      have HTa8 := Lib.hid hTa8
      have HTb8 := Lib.hid hTb
      have HRI := Lib.hid hri
      have HYZ := Lib.hid hyz
      have HN := Lib.hid (fun (W : World) => new_tab wd ky (catB ys2) W hbl)
      rw [hnew] at HN
      obtain ⟨nr, hnr⟩ : ∃ nr, ys2.length = nr := ⟨_, rfl⟩
      have hrows : Hid (∀ i (hi : i < nr), rowB (catB ys2) wd i = ys2[i]'(by omega)) := Lib.hid (fun i hi => rowB_cat HYZ.out (by omega))
      have hrise : Hid (∀ i, i + 1 < nr → Op.bytesLess (keyB (catB ys2) wd ky i).toList (keyB (catB ys2) wd ky (i + 1)).toList = true) := Lib.hid (fun i hi => by
        rw [keyB_cat HYZ.out (show i < ys2.length by omega), keyB_cat HYZ.out (show i + 1 < ys2.length by omega)]
        exact HRI.out i (by omega))
      rw [hnr] at HOK hyl
      generalize catB ys2 = bs at *
      clear hTa8 hTb hri hri2 hyz hnew hbl hok2 HBa HBb HBb7 hb8 hpy hpy2 hso hso2 hp6 hz6 HTa HRI HYZ
      go_wp2_with fail
      refine (bytes_any g wd ky bs W8 HTa8.out).mono ?_
      rintro e w' ⟨rfl, m3, rfl⟩
      go_wp2_with fail
      refine (HN.out _).mono ?_
      rintro e W9 ⟨hb9, g3, hg3, rfl, hT3⟩
      have hb89 : Below W8.heap.size W8 W9 := (below_drewN (Below.refl _ _) m3).trans hb9
      rw [Int.toNat_natCast, Int.toNat_natCast] at hT3
      have H9 := Lib.hid (H8.out.next hb89)
      have hTa9 := HTa8.out.below hb89
      have hTb9 := HTb8.out.below hb89
      have hnn := HOK.out.nle
      have HT3 := Lib.hid hT3
      clear hb9 hb89 HN hg3 hT3 HTa8 HTb8 H8
      go_wp2_with fail
      go_loopw [17] (fun i wr => ∃ j : Nat, i = .int .i64 j ∧ 1 ≤ j ∧ j ≤ nr + 1 ∧ ∃ m, wr = W9.drewN m) (fun i _ => nr + 1 - (intOf i).toNat)
      case atStart => exact ⟨1, rfl, by omega, by omega, 0, rfl⟩
      case round =>
        obtain ⟨j, rfl, hj1, hj2, m4, rfl⟩ := hrel
        have hTw := hTa9.drewN m4
        by_cases hlt : j < nr
        · have hlt' : (j : Int) < (nr : Int) := by omega
          go_wp2_with (go_at_call 17; refine (len_any _ wd ky nr bs _ HOK.out hTw).mono ?_; rintro e w' ⟨rfl, m5, rfl⟩)
          have hT5 := hTa9.drewN (m4 + m5)
          generalize hW5 : W9.drewN (m4 + m5) = W10 at hT5 ⊢
          have HW := Lib.hid hW5
          clear hW5 hTw
          refine (row_yes g wd ky nr ((j : Int) - 1) bs W10 (by omega) (by omega) HOK.out hT5).mono ?_
          rintro e w' ⟨rfl, m6, rfl⟩
          rw [show ((j : Int) - 1).toNat = j - 1 by omega]
          go_wp2_with fail
          refine (row_yes g wd ky nr (j : Int) bs _ (by omega) (by omega) HOK.out (hT5.drewN _)).mono ?_
          rintro e w' ⟨rfl, m7, rfl⟩
          rw [Int.toNat_natCast]
          have hf1 := row_fits HOK.out hlt
          have hf2 := row_fits HOK.out (show j - 1 < nr by omega)
          have hz1 : (rowB bs wd j).size = wd := by simp [rowB]; omega
          have hz2 : (rowB bs wd (j - 1)).size = wd := by simp [rowB]; omega
          have hb := hrise.out (j - 1) (by omega)
          rw [show j - 1 + 1 = j by omega] at hb
          unfold keyB at hb
          generalize rowB bs wd j = rj at hz1 hb ⊢
          generalize rowB bs wd (j - 1) = ri at hz2 hb ⊢
          go_wp2_with fail
          have hz3 : (ky : Int) ≤ (rj.size : Int) := by omega
          have hz4 : (ky : Int) ≤ (ri.size : Int) := by omega
          go_quiet (fail)
          go_wp2_with fail
          go_roundw
          case rel => exact ⟨j + 1, by go_num, by omega, by omega, m4 + m5 + (m6 + m7 + nq), by rw [← HW.out, World.drewN_drewN]⟩
          case measure => simp [intOf]; omega
        · have hge : nr ≤ j := by omega
          clear hlt
          go_wp2_with (go_at_call 17; refine (len_any _ wd ky nr bs _ HOK.out hTw).mono ?_; rintro e w' ⟨rfl, m5, rfl⟩)
          have hTa := hTa9.drewN (m4 + m5)
          have hTb := hTb9.drewN (m4 + m5)
          have hTc := HT3.out.drewN (m4 + m5)
          have hb0 := below_drewN H9.out.b (m4 + m5)
          generalize W9.drewN (m4 + m5) = W10 at hTa hTb hTc hb0 ⊢
          have HA := Lib.hid hTa
          have HB := Lib.hid hTb
          have HC := Lib.hid hTc
          have HB0 := Lib.hid hb0
          clear hTa hTb hTc hb0 hTw hTa9 hTb9
          refine (bytes_any g wd ky bs W10 HA.out).mono ?_
          rintro e w' ⟨rfl, n1, rfl⟩
          go_wp2_with (first
            | (go_at_call 19; refine (bytes_any _ wd ky bs _ ?_).mono ?_; (first | exact HA.out.drewN _ | exact HB.out.drewN _ | exact HC.out.drewN _); rintro e w' ⟨rfl, n2, rfl⟩)
            | (go_at_call 17; refine (len_any _ wd ky nr bs _ HOK.out ?_).mono ?_; (first | exact HA.out.drewN _ | exact HB.out.drewN _ | exact HC.out.drewN _); rintro e w' ⟨rfl, n2, rfl⟩))
          go_ret
          exact ⟨rfl, below_drewN HB0.out _⟩
    · exact absurd (h12 ▸ hri) hri2
  · clear hb7
    go_wp2_with fail
    refine HBb7.out.mono ?_
    rintro e W8 ⟨hb8, ys2, hpy2, hso2, hend⟩
    rcases hend with ⟨g2, hg2, hri2, rfl, hTb, hok2⟩ | ⟨g2, at2, hg2, hri2, rfl, hfa2⟩
    · exact absurd (rising_unique (hpy.trans (hp6.symm.trans hpy2.symm)) hso hri2 ▸ hri2) hri
    · have H8 := Lib.hid (H7.out.next hb8)
      have hlt7 : g < W7.heap.size := by
        rcases Nat.lt_or_ge g W7.heap.size with hlt | hge
        · exact hlt
        · rw [Array.getElem?_eq_none hge] at hfa; cases hfa
      have hlt8 : g2 < W8.heap.size := by
        rcases Nat.lt_or_ge g2 W8.heap.size with hlt | hge
        · exact hlt
        · rw [Array.getElem?_eq_none hge] at hfa2; cases hfa2
      have HK1 := Lib.hid (kind_fault g 13 at1 tableWord W8 (HV.out.below H8.out.b) ((hb8.block g hlt7).trans hfa))
      have HK2 := Lib.hid (fun (W : World) (hb : Below W8.heap.size W8 W) => kind_fault g2 13 at2 tableWord W (HV.out.below (H8.out.next hb).b) ((hb.block g2 hlt8).trans hfa2))
      clear hfa hfa2 HBa HBb HBb7 hb8 hpy hpy2 hso hso2 hp6 hri hri2 hz6
      unfold faultV at *
      go_wp2_with fail
      refine HK1.out.mono ?_
      rintro e W9 ⟨rfl, hb9⟩
      have HK9 := Lib.hid (HK2.out W9 hb9)
      have H9 := Lib.hid (H8.out.next hb9)
      clear hb9 HK2
      go_wp2_with fail
      refine HK9.out.mono ?_
      rintro e W10 ⟨rfl, hb10⟩
      have H10 := Lib.hid (H9.out.next hb10)
      clear hb10
      go_wp2_with fail
      go_ret
      exact ⟨rfl, H10.out.b⟩

end Go.Proofs.YtfeikolfdggnfaaDoor
