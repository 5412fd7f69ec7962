/- TableFinds, walked. -/
import Derived.Test.YtfeikolfdggnfaaDoorFh
import Derived.Test.YtfeikolfdggnfaaDoorFj
import Derived.Test.YtfeikolfdggnfaaDoorLa
namespace Go.Proofs.YtfeikolfdggnfaaDoor
open Go.RowKit Go.Shelf

theorem oddFrom_all {xs : List ByteArray} {wd : Nat} (hz : ∀ x ∈ xs, x.size = wd) : oddFrom (wd : Int) xs xs.length 0 = none := by
  have : ∀ (m i : Nat), i + m = xs.length → oddFrom (wd : Int) xs m i = none := by
    intro m
    induction m with
    | zero => intro i _; rfl
    | succ m ih =>
      intro i hi
      simp only [oddFrom]
      have hlt : i < xs.length := by omega
      have := hz xs[i] (List.getElem_mem hlt)
      rw [if_pos hlt, if_pos (by simp [hlt, this])]
      exact ih (i + 1) (by omega)
  exact this _ _ (by omega)

/-- What the document's Build hands back of rows of one width. -/
def RefOk (w : World) (_wd ky : Nat) (xs : List ByteArray) (e : Ending) (w' : World) : Prop :=
  Below w.heap.size w w' ∧ ∃ zs, zs.Perm xs ∧ Ordered ky zs ∧
    ((Rising ky zs ∧ ∃ a cap, e = .returned (.agg #[.slice a zs.length cap, .int .i64 0, .int .i64 0]) ∧ StrsAt w' a zs) ∨
     (¬ Rising ky zs ∧ ∃ p : Int, e = .returned (.agg #[.slice none 0 0, .int .i64 13, .int .i64 p])))

theorem refbuild_ok (wd ky : Nat) (a : Option Addr) (cap : Nat) (xs : List ByteArray) (w : World) (h : StrsAt w a xs) (hm : mayB wd ky = true) (hl : xs.length ≤ 100) (hz : ∀ x ∈ xs, x.size = wd) (hw : wd ≤ 100) :
    Calls Tryd.prog 10 #[.int .i64 wd, .int .i64 ky, .slice a xs.length cap] w (RefOk w wd ky xs) := by
  refine (refbuild_rest wd ky a cap xs w h hm hl (fun x hx => by rw [hz x hx]; exact hw)).mono ?_
  rintro e w' (⟨h1, -⟩ | ⟨i, -, h1, -⟩ | ⟨zs, -, -, hp, ho, hb, hr⟩)
  · rw [hm] at h1; cases h1
  · rw [oddFrom_all hz] at h1; cases h1
  · have hzz : ∀ x ∈ zs, x.size = wd := fun x hx => hz x (hp.mem_iff.1 hx)
    refine ⟨hb, zs, hp, by simpa using ho, ?_⟩
    cases hn : newE wd ky (catB zs) with
    | none =>
      rw [hn] at hr
      exact .inl ⟨(newE_rising hzz hm).1 hn, hr⟩
    | some p =>
      obtain ⟨k, p⟩ := p
      rw [hn] at hr
      obtain rfl := newE_kind hzz hm hn
      exact .inr ⟨(fun hri => by rw [(newE_rising hzz hm).2 hri] at hn; cases hn), p, hr⟩

set_option maxHeartbeats 4000000 in
set_option maxRecDepth 100000 in
theorem findsL_any (a : Option Addr) (cap : Nat) (l : List ByteArray) (s : ByteArray) (q0 q1 q2 q3 : Int) (w : World) (hv : ErrVar w) (hl : l.length ≤ 9223372036854775807) (hz : ∀ x ∈ l, x.size ≤ maxLen) (h : StrsAt w a l) (hsz : s.size ≤ maxLen) :
    Calls Tryd.prog 3 #[.slice a l.length cap, .string s, .agg #[.int .i64 q0, .int .i64 q1, .int .i64 q2, .int .i64 q3]] w fun e w' => e = .returned (.bool true) ∧ Below w.heap.size w w' := by
  have HV := Lib.hid hv
  have HS := Lib.hid h
  have HL := Lib.hid hl
  have HZ := Lib.hid hz
  have HSS := Lib.hid hsz
  clear hv h hl hz hsz
  go_enter Tryd.func3, Tryd.ntmps3
  go_wp2_with fail
  refine (awake_any _).mono ?_
  rintro e W1 ⟨rfl, hb1⟩
  have hS1 := (BoxQ.start w [.int .i64 q0, .int .i64 q1, .int .i64 q2, .int .i64 q3] 23).next hb1
  have H1 := Lib.hid hS1
  clear hb1
  have d0 := hS1.c 0 _ rfl
  clear hS1
  go_wp2_with fail
  refine (rest_any q0 9 W1 (by omega) (by omega)).mono ?_
  rintro e W2 ⟨rfl, m1, rfl⟩
  have hw0 : 0 ≤ q0 % 9 := Int.emod_nonneg _ (by omega)
  have hw9 : q0 % 9 < 9 := Int.emod_lt_of_pos _ (by omega)
  have hS2 := H1.out.next (below_drewN (Below.refl _ _) m1)
  have d1 := hS2.c 1 _ rfl
  have H2 := Lib.hid hS2
  clear hS2 d0
  go_wp2_with fail
  obtain ⟨wd, hwd⟩ : ∃ wd : Nat, 1 + q0 % 9 = (wd : Int) := ⟨(1 + q0 % 9).toNat, by omega⟩
  have hw1 : 1 ≤ wd := by omega
  have hw10 : wd ≤ 9 := by omega
  rw [hwd]
  clear hwd hw0 hw9
  refine (rest_any q1 wd _ (by omega) (by omega)).mono ?_
  rintro e W3 ⟨rfl, m2, rfl⟩
  have hw0 : 0 ≤ q1 % (wd : Int) := Int.emod_nonneg _ (by omega)
  have hw9 : q1 % (wd : Int) < wd := Int.emod_lt_of_pos _ (by omega)
  have hS3 := H2.out.next (below_drewN (Below.refl _ _) m2)
  generalize hW3 : (W1.drewN m1).drewN m2 = W3 at hS3
  simp only [World.drewN_drewN] at hW3 ⊢
  try rw [hW3]
  have H3 := Lib.hid hS3
  clear hS3 d1 hW3
  go_wp2_with fail
  obtain ⟨ky, hky⟩ : ∃ ky : Nat, 1 + q1 % (wd : Int) = (ky : Int) := ⟨(1 + q1 % (wd : Int)).toNat, by omega⟩
  have hk1 : 1 ≤ ky := by omega
  have hk2 : ky ≤ wd := by omega
  rw [hky]
  clear hky hw0 hw9
  have hm : mayB wd ky = true := by simp [mayB]; omega
  refine (rows_any a cap l _ wd 0 HL.out HZ.out (HS.out.below H3.out.b)).mono ?_
  rintro e W4 ⟨v4, xs, rfl, hown, hb4, hR⟩
  obtain ⟨hxs, hxz, hxl⟩ := rows_of hw10 hR
  have H4 := Lib.hid (H3.out.next hb4)
  have HX := Lib.hid hxz
  have HXS := Lib.hid hxs
  have HM := Lib.hid hm
  obtain ⟨a4, cap4, rfl, hs4⟩ := hown.strs
  have HRB := Lib.hid (refbuild_ok wd ky a4 cap4 xs W4 hs4 hm (by omega) hxz (by omega))
  clear hb4 hR hxs hxz hs4 hown hm
  go_wp2_with fail
  refine HRB.out.mono ?_
  rintro e W5 ⟨hb5, zs, hp, ho, hend⟩
  have H5 := Lib.hid (H4.out.next hb5)
  have HP := Lib.hid hp
  have HO := Lib.hid ho
  clear HRB hb5 hp ho
  rcases hend with ⟨hri, a5, cap5, rfl, hs5⟩ | ⟨hri, p5, rfl⟩
  · have HRI := Lib.hid hri
    have HS5 := Lib.hid hs5
    clear hri hs5
    go_wp2_with fail
    obtain ⟨W6, hW6⟩ : ∃ W6, W5.alloc (.cells #[.slice a5 zs.length cap5, .int .i64 0, .int .i64 0] 28) = W6 := ⟨_, rfl⟩
    have hb6 : Below W5.heap.size W5 W6 := by rw [← hW6]; exact (Below.refl _ _).alloc (Nat.le_refl _) _
    have g0 : W6.cell? ⟨W5.heap.size, 0, none⟩ = some (.slice a5 zs.length cap5) := by rw [← hW6]; exact World.cell?_alloc_new _ _ _ 0
    have g1 : W6.cell? ⟨W5.heap.size, 1, none⟩ = some (.int .i64 0) := by rw [← hW6]; exact World.cell?_alloc_new _ _ _ 1
    rw [hW6]
    clear hW6
    have H6 := Lib.hid (H5.out.next hb6)
    have HB6 := Lib.hid hb6
    refine (rows_any a cap l W6 wd 0 HL.out HZ.out (HS.out.below H6.out.b)).mono ?_
    rintro e W7 ⟨v7, xs2, rfl, hown7, hb7, hR7⟩
    obtain ⟨hxs2, hxz2, hxl2⟩ := rows_of hw10 hR7
    obtain rfl : xs2 = xs := hxs2.trans HXS.out.symm
    obtain ⟨a7, cap7, rfl, hs7⟩ := hown7.strs
    have HBT := Lib.hid ((build_tab wd ky a7 cap7 xs2 W7 hs7 (by omega) (fun x hx => by rw [HX.out x hx]; omega)).mono fun e w' h => h.ok HM.out HX.out (by omega))
    have HG := Lib.hid (And.intro ((hb7.cell (World.block_lt_of_cell? W6 _ g0)).trans g0) ((hb7.cell (World.block_lt_of_cell? W6 _ g1)).trans g1))
    have H7 := Lib.hid (H6.out.next hb7)
    have HB7 := Lib.hid hb7
    clear hb6 hb7 hR7 hxs2 hxz2 hxl2 hs7 hown7 g0 g1
    go_wp2_with fail
    refine HBT.out.mono ?_
    rintro e W8 ⟨hb8, ys, hpy, hsy, hend8⟩
    have HG8 := Lib.hid (And.intro ((hb8.cell (World.block_lt_of_cell? W7 _ HG.out.1)).trans HG.out.1) ((hb8.cell (World.block_lt_of_cell? W7 _ HG.out.2)).trans HG.out.2))
    have H8 := Lib.hid (H7.out.next hb8)
    have HS8 := Lib.hid (((HS5.out.below HB6.out).below HB7.out).below hb8)
    obtain rfl : ys = zs := rising_unique (hpy.trans HP.out.symm) hsy HRI.out
    rcases hend8 with ⟨g, hg, hri8, rfl, hT, hok⟩ | ⟨g, at8, hg, hri8, rfl, hfa⟩
    · have HT8 := Lib.hid hT
      have HOK := Lib.hid hok
      have HYZ := Lib.hid (fun (x : ByteArray) (hx : x ∈ ys) => HX.out x (HP.out.mem_iff.1 hx))
      have hyl : ys.length ≤ 12 := by rw [HP.out.length_eq]; exact hxl
      have g1 := HG8.out.2
      clear hb8 hpy hsy hri8 hT hok HBT HG hg
      go_wp2_with fail
      refine (short_any s W8 HSS.out).mono ?_
      rintro e W9 ⟨rfl, m9, rfl⟩
      have hb9 := below_drewN (Below.refl W8.heap.size W8) m9
      generalize W8.drewN m9 = W9 at hb9 ⊢
      have H9 := Lib.hid (H8.out.next hb9)
      have HT9 := Lib.hid (HT8.out.below hb9)
      have HS9 := Lib.hid (HS8.out.below hb9)
      have HG9 := Lib.hid ((hb9.cell (World.block_lt_of_cell? W8 _ HG8.out.1)).trans HG8.out.1)
      have g0 := HG9.out
      have d2 := H9.out.c 2 _ rfl
      have d3 := H9.out.c 3 _ rfl
      clear hb9 g1
      go_upto_if 57 with fail
      go_cut [13] (fun s13 wx => ∃ (x : ByteArray) (m : Nat), s13 = .string x ∧ x.size ≤ 100 ∧ wx = W9.drewN m)
      case first =>
        rcases Nat.eq_zero_or_pos ys.length with h0 | hpos
        · have hno : ¬ 0 < ys.length := by omega
          clear h0
          go_wp2_with fail
          go_meet
          exact ⟨_, 0, rfl, by simp; omega, rfl⟩
        · have hj0 : 0 ≤ q2 % (ys.length : Int) := Int.emod_nonneg _ (by omega)
          have hj9 : q2 % (ys.length : Int) < ys.length := Int.emod_lt_of_pos _ (by omega)
          obtain ⟨j, hj⟩ : ∃ j : Nat, q2 % (ys.length : Int) = (j : Int) := ⟨(q2 % (ys.length : Int)).toNat, by omega⟩
          have hjl : j < ys.length := by omega
          have hrj := fun W => rest_any q2 ys.length W (by omega) (by omega)
          rw [hj] at hrj
          have HRJ := Lib.hid hrj
          obtain ⟨b, off, hab, hc⟩ := HS9.out j hjl
          have hzz := HYZ.out _ (List.getElem_mem hjl)
          have hzj : (ky : Int) ≤ (ys[j].size : Int) := by omega
          have hzj2 : ys[j].size ≤ 100 := by omega
          clear hj hj0 hj9 hrj hzz
          generalize ys[j] = z at hc hzj hzj2
          cases hab
          go_wp2_with fail
          go_quiet ((go_at_call 9; exact Calls.quiet_of (HRJ.out _)))
          go_wp2_with fail
          go_meet
          exact ⟨_, nq, rfl, by simp; omega, rfl⟩
      case rest =>
      obtain ⟨x, m10, rfl, hx, rfl⟩ := hcut
      have hb10 := below_drewN (Below.refl W9.heap.size W9) m10
      generalize W9.drewN m10 = W10 at hb10 ⊢
      have H10 := Lib.hid (H9.out.next hb10)
      have HT10 := Lib.hid (HT9.out.below hb10)
      have HS10 := Lib.hid (HS9.out.below hb10)
      have HG10 := Lib.hid ((hb10.cell (World.block_lt_of_cell? W9 _ HG9.out)).trans HG9.out)
      clear hb10 g0 d2 d3
      go_upto_if 72 with fail
      go_cut [14] (fun s14 wx => ∃ y : ByteArray, s14 = .string y ∧ y.size ≤ 300 ∧ Below W10.heap.size W10 wx)
      case first =>
        have d3 := H10.out.c 3 _ rfl
        cases he : (!x.toList.isEmpty) with
        | false =>
          go_wp2_with fail
          go_meet
          exact ⟨x, rfl, by omega, Below.refl _ _⟩
        | true =>
          have hxp : 1 ≤ x.size := by
            rcases Nat.eq_zero_or_pos x.size with h0 | h0
            · have h1 : x.toList = [] := by rw [ByteArray.toList_eq]; exact List.length_eq_zero_iff.1 (by rw [Array.length_toList]; exact h0)
              rw [h1] at he; cases he
            · exact h0
          have hj0 : 0 ≤ q3 % (x.size : Int) := Int.emod_nonneg _ (by omega)
          have hj9 : q3 % (x.size : Int) < x.size := Int.emod_lt_of_pos _ (by omega)
          obtain ⟨j, hj⟩ : ∃ j : Nat, q3 % (x.size : Int) = (j : Int) := ⟨(q3 % (x.size : Int)).toNat, by omega⟩
          have hjl : j < x.size := by omega
          have hrj := fun W => rest_any q3 x.size W (by omega) (by omega)
          rw [hj] at hrj
          have HRJ := Lib.hid hrj
          clear hj hj0 hj9 hrj
          go_wp2_with fail
          refine (HRJ.out _).mono ?_
          rintro e W11 ⟨rfl, m11, rfl⟩
          have hb11 := below_drewN (Below.refl W10.heap.size W10) m11
          generalize W10.drewN m11 = W11 at hb11 ⊢
          have d3 := (H10.out.next hb11).c 3 _ rfl
          have HB11 := Lib.hid hb11
          have hcv := run_convert_bytes_arg (P := Tryd.prog) (W11.alloc (.cells #[.int .u8 (IntKind.u8.wrap q3)] 5)).drew 38 5 Tryd.underlying38 Tryd.underlying5 W11.heap.size 0 1 1 [IntKind.u8.wrap q3] rfl (fun i hi => by obtain rfl : i = 0 := (by omega); exact World.cell?_alloc_new W11 _ _ 0) 9 Tryd.underlying9
          have hsb : (strOfNums [IntKind.u8.wrap q3]).size ≤ 1 := by rw [strOfNums_size]; simp
          generalize strOfNums [IntKind.u8.wrap q3] = sb at hcv hsb
          have hbe : ∀ v, Below W10.heap.size W10 (W11.alloc (.cells #[v] 5)).drew := fun v => HB11.out.trans (((Below.refl _ _).alloc (Nat.le_refl _) _).drew.mono HB11.out.size)
          have HBE := Lib.hid hbe
          have hjx : (j : Int) ≤ (x.size : Int) := by omega
          have hjx2 : (j : Int) + 1 ≤ (x.size : Int) := by omega
          have hjx3 : j + 1 ≤ x.size := by omega
          have hjw : IntKind.i64.wrap ((j : Int) + 1) = (j : Int) + 1 := IntWalk.i64_in _ (by omega)
          have hjn : 0 ≤ (j : Int) + 1 := by omega
          have hjt : ((j : Int) + 1).toNat = j + 1 := by omega
          clear hb11 hbe
          go_wp2_with fail
          go_region_with (fail)
          all_goals
            go_wp2_with fail
            go_meet
            exact ⟨_, rfl, by simp only [ByteArray.size_append, ByteArray.size_extract]; omega, HBE.out _⟩
      case rest =>
      obtain ⟨y, rfl, hy, hb12⟩ := hcut
      generalize wc = W12 at hb12 ⊢
      have H12 := Lib.hid (H10.out.next hb12)
      have g0 := (hb12.cell (World.block_lt_of_cell? W10 _ HG10.out)).trans HG10.out
      have hT := HT10.out.below hb12
      have hS := HS10.out.below hb12
      have HFI := Lib.hid (fun (k : ByteArray) (hk : k.size ≤ maxLen) (u : Later W12) => Calls.later (finds_any g wd ky ys.length a5 cap5 ys (catB ys) k u.val rfl rfl HOK.out (hT.below u.below) (hS.below u.below) HYZ.out HRI.out hk (by omega)))
      have g2 := Later.cell g0
      have hk0 : (s.extract 0 60).size ≤ maxLen := by rw [ByteArray.size_extract]; unfold maxLen; omega
      have hk1 : x.size ≤ maxLen := by unfold maxLen; omega
      have hk2 : y.size ≤ maxLen := by unfold maxLen; omega
      have hk3 : (x ++ ⟨#[48]⟩).size ≤ maxLen := by rw [ByteArray.size_append]; have : (⟨#[48]⟩ : ByteArray).size = 1 := rfl; unfold maxLen; omega
      have hk4 : (⟨#[]⟩ : ByteArray).size ≤ maxLen := by decide
      have HK0 := Lib.hid hk0
      have HK1 := Lib.hid hk1
      have HK2 := Lib.hid hk2
      have HK3 := Lib.hid hk3
      have HK4 := Lib.hid hk4
      have HSH := Lib.hid (fun (u : Later W12) => Calls.later ((short_any s u.val HSS.out).mono fun e w' h => ⟨h.1, by obtain ⟨-, m, rfl⟩ := h; exact below_drewN (Below.refl _ _) m⟩))
      clear hb12 hT hS hk0 hk1 hk2 hk3 hk4
      go_wp2_with fail
      refine wp_region_later (by kernel_rfl) (by kernel_rfl) ?_
      repeat (go_big_quiet_step (first
        | (go_at_call 14; exact HSH.out _)
        | (go_at_call 15; with_reducible exact HFI.out _ HK0.out _)
        | (go_at_call 15; with_reducible exact HFI.out _ HK1.out _)
        | (go_at_call 15; with_reducible exact HFI.out _ HK2.out _)
        | (go_at_call 15; with_reducible exact HFI.out _ HK3.out _)
        | (go_at_call 15; with_reducible exact HFI.out _ HK4.out _)))
      refine wpQuiet_nil ?_
      rintro _ ⟨u, rfl⟩
      have HU := Lib.hid (H12.out.next u.below).b
      clear g2 g0
      go_wp2_with fail
      go_ret
      exact ⟨rfl, HU.out⟩
    · exact absurd HRI.out hri8
  · have HRI := Lib.hid hri
    clear hri
    go_wp2_with fail
    obtain ⟨W6, hW6⟩ : ∃ W6, W5.alloc (.cells #[.slice none 0 0, .int .i64 13, .int .i64 p5] 28) = W6 := ⟨_, rfl⟩
    have hb6 : Below W5.heap.size W5 W6 := by rw [← hW6]; exact (Below.refl _ _).alloc (Nat.le_refl _) _
    have g0 : W6.cell? ⟨W5.heap.size, 0, none⟩ = some (.slice none 0 0) := by rw [← hW6]; exact World.cell?_alloc_new _ _ _ 0
    have g1 : W6.cell? ⟨W5.heap.size, 1, none⟩ = some (.int .i64 13) := by rw [← hW6]; exact World.cell?_alloc_new _ _ _ 1
    rw [hW6]
    clear hW6
    have H6 := Lib.hid (H5.out.next hb6)
    have HB6 := Lib.hid hb6
    refine (rows_any a cap l W6 wd 0 HL.out HZ.out (HS.out.below H6.out.b)).mono ?_
    rintro e W7 ⟨v7, xs2, rfl, hown7, hb7, hR7⟩
    obtain ⟨hxs2, hxz2, hxl2⟩ := rows_of hw10 hR7
    obtain rfl : xs2 = xs := hxs2.trans HXS.out.symm
    obtain ⟨a7, cap7, rfl, hs7⟩ := hown7.strs
    have HBT := Lib.hid ((build_tab wd ky a7 cap7 xs2 W7 hs7 (by omega) (fun x hx => by rw [HX.out x hx]; omega)).mono fun e w' h => h.ok HM.out HX.out (by omega))
    have HG := Lib.hid (And.intro ((hb7.cell (World.block_lt_of_cell? W6 _ g0)).trans g0) ((hb7.cell (World.block_lt_of_cell? W6 _ g1)).trans g1))
    have H7 := Lib.hid (H6.out.next hb7)
    have HB7 := Lib.hid hb7
    clear hb6 hb7 hR7 hxs2 hxz2 hxl2 hs7 hown7 g0 g1
    go_wp2_with fail
    refine HBT.out.mono ?_
    rintro e W8 ⟨hb8, ys, hpy, hsy, hend8⟩
    have HG8 := Lib.hid (And.intro ((hb8.cell (World.block_lt_of_cell? W7 _ HG.out.1)).trans HG.out.1) ((hb8.cell (World.block_lt_of_cell? W7 _ HG.out.2)).trans HG.out.2))
    have H8 := Lib.hid (H7.out.next hb8)
    rcases hend8 with ⟨g, hg, hri8, rfl, hT, hok⟩ | ⟨g, at8, hg, hri8, rfl, hfa⟩
    · exact absurd (rising_unique (HP.out.trans hpy.symm) HO.out.sorted hri8 ▸ hri8) HRI.out
    · have HV8 := Lib.hid (HV.out.below H8.out.b)
      have hbd : Below W8.heap.size W8 W8.drew := (Below.refl _ _).drew
      have HKF := Lib.hid (fun (W : World) (hb : Below W8.heap.size W8 W) => kind_fault g 13 at8 tableWord W (HV8.out.below hb) ((hb.block g (Array.getElem?_eq_some_iff.1 hfa).1).trans hfa))
      have g1 := HG8.out.2
      have HG1 := Lib.hid (fun (W : World) (hb : Below W8.heap.size W8 W) => (hb.cell (World.block_lt_of_cell? W8 _ g1)).trans g1)
      clear hb8 hpy hsy hri8 hfa HBT HG hg
      unfold faultV at *
      go_wp2_with fail
      go_region_with (go_at_call 13; refine (HKF.out _ (by assumption)).mono ?_; rintro e w3 ⟨rfl, hb3⟩; have hb3' := hbd.trans hb3; have g3 := HG1.out _ hb3')
      all_goals
        go_wp2_with fail
        go_ret
        exact ⟨rfl, (H8.out.next (by assumption)).b⟩

end Go.Proofs.YtfeikolfdggnfaaDoor
