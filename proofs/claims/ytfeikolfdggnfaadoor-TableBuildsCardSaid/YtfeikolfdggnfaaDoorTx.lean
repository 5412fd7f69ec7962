/- TableLess, walked. -/
import Derived.Test.YtfeikolfdggnfaaDoorTv
namespace Go.Proofs.YtfeikolfdggnfaaDoor
open Go.RowKit Go.Shelf

theorem less_skip {ys : List ByteArray} {n : Nat} : (ys.take (n + 1)).eraseIdx n = (ys.take n).eraseIdx n := by
  rw [List.eraseIdx_of_length_le (l := ys.take n) (by rw [List.length_take]; omega)]
  rcases Nat.lt_or_ge n ys.length with h | h
  · rw [List.take_succ_eq_append_getElem h, List.eraseIdx_append_of_length_le (by rw [List.length_take]; omega), List.length_take, show n - min n ys.length = 0 by omega]
    simp
  · rw [List.take_of_length_le (by omega), List.take_of_length_le h, List.eraseIdx_of_length_le h]

theorem less_go {ys : List ByteArray} {n i : Nat} (hi : i < ys.length) (hn : i ≠ n) : (ys.take (i + 1)).eraseIdx n = (ys.take i).eraseIdx n ++ [ys[i]] := by
  rw [List.take_succ_eq_append_getElem hi]
  rcases Nat.lt_or_ge n i with h | h
  · rw [List.eraseIdx_append_of_lt_length (by rw [List.length_take]; omega)]
  · rw [List.eraseIdx_append_of_length_le (by rw [List.length_take]; omega), List.length_take, show n - min i ys.length = (n - i - 1) + 1 by omega, List.eraseIdx_of_length_le (l := ys.take i) (by rw [List.length_take]; omega)]
    rfl

theorem Rising.less {key : Nat} {ys : List ByteArray} (h : Rising key ys) (n : Nat) : Rising key (ys.eraseIdx n) := by
  intro i hi
  have hl : (ys.eraseIdx n).length ≤ ys.length := List.length_eraseIdx_le _ _
  rw [List.getElem_eraseIdx, List.getElem_eraseIdx]
  rw [List.length_eraseIdx] at hi
  split at hi <;> split <;> split <;> exact h.lt _ _ _ _ (by omega)

theorem less_key {key : Nat} {ys : List ByteArray} (h : Rising key ys) {n i : Nat} (hn : n < ys.length) (hi : i < (ys.eraseIdx n).length) : keyL key (ys.eraseIdx n)[i] ≠ keyL key ys[n] := by
  intro he
  rw [List.getElem_eraseIdx] at he
  have hl := hi
  rw [List.length_eraseIdx, if_pos hn] at hl
  split at he
  · rename_i hlt
    have := h.lt i n (by omega) hn hlt
    rw [he, bl_irrefl] at this; cases this
  · rename_i hge
    have := h.lt n (i + 1) hn (by omega) (by omega)
    rw [he, bl_irrefl] at this; cases this

/-- A key of the table is found where it stands. -/
theorem find_at {key wd : Nat} {ys : List ByteArray} (hz : ∀ x ∈ ys, x.size = wd) (h : Rising key ys) {i r : Nat} (hi : i < ys.length) {k : ByteArray} (hk : k.toList = keyL key ys[i]) (hf : FromOf (catB ys) wd key ys.length k r) :
    findV (catB ys) wd key ys.length k r = .tuple #[.string ys[i], .bool true] := by
  obtain rfl : r = i := by
    obtain ⟨h1, h2, h3⟩ := hf
    rcases Nat.lt_trichotomy r i with h4 | h4 | h4
    · have h5 := h3 (by omega)
      rw [keyB_cat hz (show r < ys.length by omega), hk, h.lt r i (by omega) hi h4] at h5
      cases h5
    · exact h4
    · have h5 := h2 (by omega)
      rw [keyB_cat hz (show r - 1 < ys.length by omega), hk] at h5
      rcases Nat.lt_or_ge i (r - 1) with h6 | h6
      · have h7 := bl_asymm (h.lt i (r - 1) hi (by omega) h6)
        rw [h5] at h7; cases h7
      · obtain rfl : i = r - 1 := by omega
        rw [bl_irrefl] at h5; cases h5
  unfold findV
  rw [if_pos ⟨hi, by rw [keyB_cat hz hi, hk]⟩, rowB_cat hz hi]

theorem find_none {key wd : Nat} {ys : List ByteArray} (hz : ∀ x ∈ ys, x.size = wd) {r : Nat} {k : ByteArray} (hk : ∀ i (hi : i < ys.length), keyL key ys[i] ≠ k.toList) :
    findV (catB ys) wd key ys.length k r = .tuple #[.string ⟨#[]⟩, .bool false] := by
  unfold findV
  rw [if_neg]
  rintro ⟨h1, h2⟩
  rw [keyB_cat hz h1] at h2
  exact hk r h1 h2

set_option maxHeartbeats 2000000 in
set_option maxRecDepth 100000 in
theorem less_any (a : Option Addr) (cap : Nat) (l : List ByteArray) (q0 q1 q2 : Int) (w : World) (hv : ErrVar w) (hl : l.length ≤ 9223372036854775807) (hz : ∀ x ∈ l, x.size ≤ maxLen) (h : StrsAt w a l) :
    Calls Tryd.prog 6 #[.slice a l.length cap, .agg #[.int .i64 q0, .int .i64 q1, .int .i64 q2]] w fun e w' => e = .returned (.bool true) ∧ Below w.heap.size w w' := by
  have HV := Lib.hid hv
  have HS := Lib.hid h
  have HL := Lib.hid hl
  have HZ := Lib.hid hz
  clear hv h hl hz
  go_enter Tryd.func6, Tryd.ntmps6
  go_wp2_with fail
  refine (awake_any _).mono ?_
  rintro e W1 ⟨rfl, hb1⟩
  have hS1 := (BoxQ.start w [.int .i64 q0, .int .i64 q1, .int .i64 q2] 47).next hb1
  have H1 := Lib.hid hS1
  clear hb1
  have d0 := hS1.c 0 _ rfl
  clear hS1
  go_wp2_with fail
  refine (rest_any q0 9 W1 (by omega) (by omega)).mono ?_
  rintro e W2 ⟨rfl, m1, rfl⟩
  have hw0 : 0 ≤ q0 % 9 := Int.emod_nonneg _ (by omega)
  have hw9 : q0 % 9 < 9 := Int.emod_lt_of_pos _ (by omega)
  have hS2 := H1.out.next (below_drewN (Below.refl _ _) m1)
  have d1 := hS2.c 1 _ rfl
  have H2 := Lib.hid hS2
  clear hS2 d0
  go_wp2_with fail
  obtain ⟨wd, hwd⟩ : ∃ wd : Nat, 1 + q0 % 9 = (wd : Int) := ⟨(1 + q0 % 9).toNat, by omega⟩
  have hw1 : 1 ≤ wd := by omega
  have hw10 : wd ≤ 9 := by omega
  rw [hwd]
  clear hwd hw0 hw9
  refine (rest_any q1 wd _ (by omega) (by omega)).mono ?_
  rintro e W3 ⟨rfl, m2, rfl⟩
  have hw0 : 0 ≤ q1 % (wd : Int) := Int.emod_nonneg _ (by omega)
  have hw9 : q1 % (wd : Int) < wd := Int.emod_lt_of_pos _ (by omega)
  have hS3 := H2.out.next (below_drewN (Below.refl _ _) m2)
  generalize hW3 : (W1.drewN m1).drewN m2 = W3 at hS3
  simp only [World.drewN_drewN] at hW3 ⊢
  try rw [hW3]
  have H3 := Lib.hid hS3
  clear hS3 d1 hW3
  go_wp2_with fail
  obtain ⟨ky, hky⟩ : ∃ ky : Nat, 1 + q1 % (wd : Int) = (ky : Int) := ⟨(1 + q1 % (wd : Int)).toNat, by omega⟩
  have hk1 : 1 ≤ ky := by omega
  have hk2 : ky ≤ wd := by omega
  rw [hky]
  clear hky hw0 hw9
  refine (rows_any a cap l _ wd 0 HL.out HZ.out (HS.out.below H3.out.b)).mono ?_
  rintro e W4 ⟨v4, xs, rfl, hown, hb4, hR⟩
  obtain ⟨hxs, hxz, hxl⟩ := rows_of hw10 hR
  have H4 := Lib.hid (H3.out.next hb4)
  obtain ⟨a4, cap4, rfl, hs4⟩ := hown.strs
  have hm : mayB wd ky = true := by simp [mayB]; omega
  have HBa := Lib.hid ((build_tab wd ky a4 cap4 xs W4 hs4 (by omega) (fun x hx => by rw [hxz x hx]; omega)).mono fun e w' h => h.ok hm hxz (by omega))
  have HX := Lib.hid hxz
  clear hb4 hR hxs hs4 hown hxz HS HL HZ
  go_wp2_with fail
  refine HBa.out.mono ?_
  rintro e W5 ⟨hb5, ys, hpy, hso, hend⟩
  have H5 := Lib.hid (H4.out.next hb5)
  clear HBa
  rcases hend with ⟨g, hg, hri, rfl, hTa, hok⟩ | ⟨g, at1, hg, hri, rfl, hfa⟩
  · have hyz : ∀ x ∈ ys, x.size = wd := fun x hx => HX.out x (hpy.mem_iff.1 hx)
    have hyl : ys.length = xs.length := hpy.length_eq
    have HYZ := Lib.hid hyz
    have HRI := Lib.hid hri
    have HTa := Lib.hid hTa
    have HOK := Lib.hid hok
    obtain ⟨nr, hnr⟩ : ∃ nr, ys.length = nr := ⟨_, rfl⟩
    have hrows : Hid (∀ i, i < nr → ys[i]? = some (rowB (catB ys) wd i)) := Lib.hid (fun i hi => by rw [List.getElem?_eq_getElem (by omega), rowB_cat HYZ.out (by omega)])
    rw [hnr] at HOK hyl
    have hnr12 : nr ≤ 12 := by omega
    have HNR := Lib.hid hnr
    clear hyl hnr
    generalize catB ys = bs at *
    clear hb5 hpy hso hri hTa hok hyz
    have hnn := HOK.out.nle
    rcases Nat.eq_zero_or_pos nr with h0 | hpos
    · subst h0
      go_wp2_with (go_at_call 17; refine (len_any _ wd ky 0 bs _ HOK.out HTa.out).mono ?_; rintro e w' ⟨rfl, m5, rfl⟩)
      go_ret
      exact ⟨rfl, below_drewN H5.out.b _⟩
    · have hne : ((nr : Int) == 0) = false := by rw [beq_eq_false_iff_ne]; omega
      go_wp2_with (go_at_call 17; refine (len_any _ wd ky nr bs _ HOK.out HTa.out).mono ?_; rintro e w' ⟨rfl, m5, rfl⟩)
      have hTa := HTa.out.drewN m5
      have hS6 := H5.out.next (below_drewN (Below.refl _ _) m5)
      generalize W5.drewN m5 = W6 at hTa hS6 ⊢
      have HTa6 := Lib.hid hTa
      have H6 := Lib.hid hS6
      have d2 := hS6.c 2 _ rfl
      clear hTa hS6 HTa
      go_quiet (first | (go_at_call 17; exact Calls.quiet_of (len_any g wd ky nr bs _ HOK.out (HTa6.out.drewN _))) | (go_at_call 9; exact Calls.quiet_of (rest_any q2 nr _ (by omega) (by omega))))
      have hw0 : 0 ≤ q2 % (nr : Int) := Int.emod_nonneg _ (by omega)
      have hw9 : q2 % (nr : Int) < nr := Int.emod_lt_of_pos _ (by omega)
      obtain ⟨nn, hnn2⟩ : ∃ nn : Nat, q2 % (nr : Int) = (nn : Int) := ⟨(q2 % (nr : Int)).toNat, by omega⟩
      have hnlt : nn < nr := by omega
      rw [hnn2]
      clear hnn2 hw0 hw9 d2
      have hTa := HTa6.out.drewN nq
      have hS7 := H6.out.next (below_drewN (Below.refl _ _) nq)
      generalize W6.drewN nq = W7 at hTa hS7 ⊢
      have HTa7 := Lib.hid hTa
      have H7 := Lib.hid hS7
      clear hTa hS7 HTa6
      go_wp2_with (go_at_call 20; refine (row_yes g wd ky nr (nn : Int) bs _ (by omega) (by omega) HOK.out HTa7.out).mono ?_; rintro e w' ⟨rfl, m6, rfl⟩)
      have hTa := HTa7.out.drewN m6
      have hS8 := H7.out.next (below_drewN (Below.refl _ _) m6)
      generalize W7.drewN m6 = W8 at hTa hS8 ⊢
      have HTa8 := Lib.hid hTa
      have H8 := Lib.hid hS8
      clear hTa hS8 HTa7
      go_loopw [13, 14] (fun v i wr => ∃ k : Nat, k ≤ nr ∧ i = .int .i64 k ∧ OwnS wr W8.heap.size v ((ys.take k).eraseIdx nn) ∧ Below W8.heap.size W8 wr) (fun _ i _ => nr - (intOf i).toNat)
      case atStart => exact ⟨0, by omega, rfl, by rw [List.take_zero, List.eraseIdx_nil]; exact World.ownsRow_nil _ _ _ _, Below.refl _ _⟩
      case round =>
        obtain ⟨k, hk, rfl, hown, hb⟩ := hrel
        have hTw := HTa8.out.below hb
        by_cases hlt : k < nr
        · have HLEN := Lib.hid (fun m => (len_any g wd ky nr bs (wr.drewN m) HOK.out (hTw.drewN m)))
          by_cases hkn : k = nn
          · have HKN := Lib.hid hkn
            have hkk : ((k : Int) == (nn : Int)) = true := by rw [beq_iff_eq]; omega
            have HO := Lib.hid hown
            have HB := Lib.hid hb
            clear hkn hown hb
            go_wp2_with (go_at_call 17; refine (len_any g wd ky nr bs _ HOK.out hTw).mono ?_; rintro e w' ⟨rfl, m7, rfl⟩)
            go_roundw
            case rel => exact ⟨k + 1, by omega, by go_num, by have e := HKN.out; subst e; rw [less_skip]; exact HO.out, below_drewN HB.out _⟩
            case measure => simp [intOf]; omega
          · have HKN := Lib.hid hkn
            have hkk : ((k : Int) == (nn : Int)) = false := by rw [beq_eq_false_iff_ne]; omega
            have HO := Lib.hid hown
            have HB := Lib.hid hb
            have hf1 := row_fits HOK.out hlt
            have hz1 : (rowB bs wd k).size = wd := by simp [rowB]; omega
            have hyk := hrows.out k hlt
            have HYK := Lib.hid hyk
            clear hkn hown hb hf1 hyk
            go_wp2_with (go_at_call 17; refine (len_any g wd ky nr bs _ HOK.out hTw).mono ?_; rintro e w' ⟨rfl, m7, rfl⟩)
            refine (row_yes g wd ky nr (k : Int) bs _ (by omega) (by omega) HOK.out (hTw.drewN _)).mono ?_
            rintro e w' ⟨rfl, m8, rfl⟩
            rw [Int.toNat_natCast, World.drewN_drewN]
            have HO2 : Hid (OwnS (wr.drewN (m7 + m8)) W8.heap.size _ ((ys.take k).eraseIdx nn)) := HO
            have hb2 := below_drewN HB.out (m7 + m8)
            have hx2 : ((ys.take k).eraseIdx nn).length ≤ 12 := by
              have h1 : ((ys.take k).eraseIdx nn).length ≤ (ys.take k).length := List.length_eraseIdx_le _ _
              rw [List.length_take] at h1
              omega
            have HXL := Lib.hid hx2
            generalize wr.drewN (m7 + m8) = W9 at HO2 hb2 ⊢
            have HB2 := Lib.hid hb2
            have hsz2 := hb2.size
            clear hb2 HO HB hx2
            generalize rowB bs wd k = rk at hz1 HYK ⊢
            go_wp2_with (at_builtin; refine append_S rfl _ _ rfl W8.heap.size _ ((ys.take k).eraseIdx nn) rfl (HO2.out.alloc _) W9.heap.size 1 rk rfl (by simp) (Nat.le_trans (Nat.add_le_add_right HXL.out 1) (by decide)) (by simp; omega) ?_; intro v' w2 hown' hgrow)
            go_roundw
            case rel =>
              refine ⟨k + 1, by omega, by go_num, ?_, (HB2.out.alloc hsz2 _).grown hgrow (by simp; omega) HO2.out.ge⟩
              have hky : k < ys.length := by have := HNR.out; omega
              have h3 := HYK.out
              rw [List.getElem?_eq_getElem hky] at h3
              rw [less_go hky HKN.out, Option.some.inj h3]
              exact hown'
            case measure => simp [intOf]; omega
        · obtain rfl : k = nr := by omega
          have HB := Lib.hid hb
          have hnr := HNR.out
          rw [List.take_of_length_le (by omega)] at hown
          obtain ⟨left, hleft⟩ : ∃ left, ys.eraseIdx nn = left := ⟨_, rfl⟩
          have hll : left.length = k - 1 := by rw [← hleft, List.length_eraseIdx, if_pos (by omega), hnr]
          have hlr : Rising ky left := by rw [← hleft]; exact HRI.out.less nn
          have hlz : ∀ x ∈ left, x.size = wd := fun x hx => HYZ.out x (List.mem_of_mem_eraseIdx (hleft ▸ hx))
          have hgone : ys[nn]? = some (rowB bs wd nn) := hrows.out nn hnlt
          obtain ⟨gone, hgn⟩ : ∃ gone, rowB bs wd nn = gone := ⟨_, rfl⟩
          have hgz : gone.size = wd := by
            rw [hgn] at hgone
            exact HYZ.out gone (List.mem_of_getElem? hgone)
          have hgk : ∀ i (hi : i < left.length), keyL ky left[i] ≠ keyL ky gone := by
            subst hleft
            intro i hi
            have h1 := less_key (n := nn) HRI.out (by omega) hi
            rw [hgn, List.getElem?_eq_getElem (by omega)] at hgone
            rw [Option.some.inj hgone] at h1
            exact h1
          rw [hleft] at hown
          rw [hgn]
          obtain ⟨a13, cap13, hv13, hs13⟩ := hown.strs
          have HLEN := Lib.hid (fun m => (len_any g wd ky k bs (wr.drewN m) HOK.out (hTw.drewN m)))
          have HLZ := Lib.hid hlz
          have HLR := Lib.hid hlr
          have HGK := Lib.hid hgk
          have HSL := Lib.hid hs13
          have HTw := Lib.hid hTw
          have HBx := Lib.hid (fun (W : World) (hb : Below wr.heap.size wr W) => (build_tab wd ky a13 cap13 left W (hs13.below hb) (by omega) (fun x hx => by rw [hlz x hx]; omega)).mono fun e w' h => h.ok hm hlz (by omega))
          obtain ⟨nl, hnl⟩ : ∃ nl, left.length = nl := ⟨_, rfl⟩
          have HNL := Lib.hid hnl
          rw [hnl] at hv13 hll HBx
          have HLL := Lib.hid hll
          subst hv13
          clear hll hb hnr hown hlr hlz hgone hgn hgk hs13 hTw hnl hleft hrows HNR HYZ HRI
          go_wp2_with (go_at_call 17; refine (HLEN.out 0).mono ?_; rintro e w' ⟨rfl, m7, rfl⟩)
          have hb9 := below_drewN (Below.refl wr.heap.size wr) m7
          refine (HBx.out _ hb9).mono ?_
          rintro e W9 ⟨hb10, zs, hpz, hsz, hend⟩
          have hbr := hb9.trans hb10
          rcases hend with ⟨g2, hg2, hri2, rfl, hTx, hokx⟩ | ⟨g2, at2, hg2, hri2, rfl, hfa2⟩
          · obtain rfl := rising_unique hpz hsz HLR.out
            have hHLL := HLL.out
            have HTx := Lib.hid hTx
            have HTt := Lib.hid (HTw.out.below hbr)
            have HSL9 := Lib.hid (HSL.out.below hbr)
            have H9 := Lib.hid ((H8.out.next HB.out).next hbr)
            rw [HNL.out] at hokx
            have HOX := Lib.hid hokx
            have HFx : Hid (∀ (r : Nat) (kk : ByteArray) (i : Nat) (hi : i < zs.length), kk.toList = keyL ky zs[i] → FromOf (catB zs) wd ky nl kk r → findV (catB zs) wd ky nl kk r = .tuple #[.string zs[i], .bool true]) :=
              Lib.hid (fun r kk i hi hk hf => by rw [← HNL.out] at hf ⊢; exact find_at HLZ.out HLR.out hi hk hf)
            have HFn : Hid (∀ r : Nat, findV (catB zs) wd ky nl (gone.extract 0 ky) r = .tuple #[.string ⟨#[]⟩, .bool false]) :=
              Lib.hid (fun r => by rw [← HNL.out]; exact find_none HLZ.out HGK.out)
            generalize catB zs = bx at *
            have hwrap : (((nl : Nat) : Int) == (k : Int) - 1) = true := by rw [beq_iff_eq]; omega
            have hnn2 : nl ≤ 12 := by omega
            clear hTx hokx hb10 hb9 hbr hri2 hpz hsz HBx HGK hHLL
            go_wp2_with fail
            refine (len_any g2 wd ky nl bx W9 HOX.out HTx.out).mono ?_
            rintro e w' ⟨rfl, m8, rfl⟩
            go_wp2_with fail
            refine (len_any g wd ky k bs _ HOK.out (HTt.out.drewN _)).mono ?_
            rintro e w' ⟨rfl, m9, rfl⟩
            have hgz2 : (ky : Int) ≤ (gone.size : Int) := by omega
            have hgm : (gone.extract 0 ky).size ≤ maxLen := by rw [ByteArray.size_extract]; unfold maxLen; omega
            go_wp2_with fail
            have hTx10 := HTx.out.drewN (m8 + m9)
            have hSL10 := HSL9.out.below (below_drewN (Below.refl _ _) (m8 + m9))
            have hS10 := H9.out.next (below_drewN (Below.refl _ _) (m8 + m9))
            generalize W9.drewN (m8 + m9) = W10 at hTx10 hSL10 hS10 ⊢
            refine (find_any g2 wd ky nl bx (gone.extract 0 ky) W10 HOX.out hgm hTx10).mono ?_
            rintro e W11 ⟨r, -, rfl, hb11⟩
            rw [HFn.out r]
            have HTx11 := Lib.hid (hTx10.below hb11)
            have HSL11 := Lib.hid (hSL10.below hb11)
            have H11 := Lib.hid (hS10.next hb11)
            clear hTx10 hSL10 hS10 hb11 HTx HTt HSL9 H9 hgz2 hgm
            go_wp2_with fail
            go_loopw [21] (fun i wr2 => ∃ j : Nat, j ≤ nl ∧ i = .int .i64 j ∧ Below W11.heap.size W11 wr2) (fun i _ => nl - (intOf i).toNat)
            case atStart => exact ⟨0, by omega, rfl, Below.refl _ _⟩
            case round =>
              obtain ⟨j, hj, rfl, hbj⟩ := hrel
              by_cases hlt2 : j < nl
              · have hjz : j < zs.length := by have := HNL.out; omega
                obtain ⟨b, off, hab, hc0⟩ := HSL11.out j hjz
                have hcj : wr.cell? ⟨b, off + j, none⟩ = some (.string zs[j]) := (hbj.cell (p := ⟨b, off + j, none⟩) (World.block_lt_of_cell? _ _ hc0)).trans hc0
                have hzj : zs[j].size = wd := HLZ.out _ (List.getElem_mem hjz)
                have HF := Lib.hid (fun (r : Nat) (hf : FromOf bx wd ky nl (zs[j].extract 0 ky) r) => HFx.out r (zs[j].extract 0 ky) j hjz rfl hf)
                have HTj := Lib.hid (HTx11.out.below hbj)
                have HBJ := Lib.hid hbj
                have hkz : (ky : Int) ≤ (zs[j].size : Int) := by omega
                have hgm : (zs[j].extract 0 ky).size ≤ maxLen := by rw [ByteArray.size_extract]; unfold maxLen; omega
                generalize zs[j] = sj at hcj hzj HF hkz hgm
                subst hab
                clear hbj hc0
                go_wp2_with fail
                refine (find_any g2 wd ky nl bx (sj.extract 0 ky) wr HOX.out hgm HTj.out).mono ?_
                rintro e W12 ⟨r, hf, rfl, hb12⟩
                rw [HF.out r hf]
                have hc12 : W12.cell? ⟨b, off + j, none⟩ = some (.string sj) := (hb12.cell (p := ⟨b, off + j, none⟩) (World.block_lt_of_cell? _ _ hcj)).trans hcj
                have HB12 := Lib.hid (HBJ.out.trans (hb12.mono HBJ.out.size))
                clear hb12 hf hcj HF
                go_wp2_with fail
                go_roundw
                case rel => exact ⟨j + 1, by omega, by go_num, HB12.out⟩
                case measure => simp [intOf]; omega
              · have hE := (H11.out.next hbj).b
                have HE := Lib.hid hE
                clear hbj hE
                go_wp2_with fail
                go_ret
                exact ⟨rfl, HE.out⟩
          · exact absurd (rising_unique hpz hsz HLR.out ▸ HLR.out) hri2
  · have HK := Lib.hid (kind_fault g 13 at1 tableWord W5 (HV.out.below H5.out.b) hfa)
    clear hb5 hpy hso hri hfa
    unfold faultV at *
    go_wp2_with fail
    refine HK.out.mono ?_
    rintro e W6 ⟨rfl, hb6⟩
    have H6 := Lib.hid (H5.out.next hb6)
    clear hb6
    go_wp2_with fail
    go_ret
    exact ⟨rfl, H6.out.b⟩

end Go.Proofs.YtfeikolfdggnfaaDoor
