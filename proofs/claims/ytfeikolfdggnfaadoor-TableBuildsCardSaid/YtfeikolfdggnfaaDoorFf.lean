/- The document's answer: Build, walked. -/
import Derived.Test.YtfeikolfdggnfaaDoorFe
import Derived.Deep.CutBlock
namespace Go.Proofs.YtfeikolfdggnfaaDoor
open Go.RowKit Go.Shelf

theorem catB_snoc (ls : List ByteArray) (y : ByteArray) : catB (ls ++ [y]) = catB ls ++ y := by
  apply ByteArray.ext
  rw [ByteArray.data_append]
  unfold catB
  apply Array.toList_inj.1
  simp

theorem rowsL_cat {ls : List ByteArray} {wd : Nat} (h : ∀ x ∈ ls, x.size = wd) (hw : 1 ≤ wd) : rowsL (catB ls) wd ((catB ls).size / wd) = ls := by
  rw [size_cat h, Nat.mul_div_cancel _ (by omega)]
  unfold rowsL
  apply List.ext_getElem (by simp)
  intro i h1 h2
  rw [List.getElem_map, List.getElem_range]
  exact rowB_cat h h2

/-- What is handed back, in one form. -/
theorem RefPost.agg {w w' : World} {r : Option (Int × Int)} {rows : List ByteArray} {e : Ending} (h : RefPost w r rows e w') : ∃ a n c k p, e = .returned (.agg #[.slice a n c, .int .i64 k, .int .i64 p]) := by
  obtain ⟨-, h⟩ := h
  cases r with
  | none => obtain ⟨a, c, e, -⟩ := h; exact ⟨_, _, _, _, _, e⟩
  | some p => exact ⟨_, _, _, _, _, h⟩

theorem StrsAt.take {w : World} {a : Option Addr} {xs : List ByteArray} (h : StrsAt w a xs) (j : Nat) : StrsAt w a (xs.take j) := by
  intro i hi
  have hi2 : i < xs.length := by rw [List.length_take] at hi; omega
  obtain ⟨b, off, e1, e2⟩ := h i hi2
  exact ⟨b, off, e1, by rw [List.getElem_take]; exact e2⟩

/-- Texts lie as they lay behind stores into cells that hold no text. -/
theorem StrsAt.set3 {W : World} {a : Option Addr} {xs : List ByteArray} {B : Nat} (h : StrsAt W a xs) {a0 : Option Addr} {n0 c0 : Nat} {i1 i2 : Int} (h0 : W.cell? ⟨B, 0, none⟩ = Option.some (Value.slice a0 n0 c0)) (h1 : W.cell? ⟨B, 1, none⟩ = Option.some (Value.int .i64 i1)) (h2 : W.cell? ⟨B, 2, none⟩ = Option.some (Value.int .i64 i2)) (v0 v1 v2 : Value) :
    StrsAt (((W.setCell ⟨B, 0, none⟩ v0).setCell ⟨B, 1, none⟩ v1).setCell ⟨B, 2, none⟩ v2) a xs := by
  intro i hi
  obtain ⟨b, off, e1, e2⟩ := h i hi
  refine ⟨b, off, e1, ?_⟩
  rw [World.cell?_setCell_other, World.cell?_setCell_other, World.cell?_setCell_other]
  · exact e2
  · intro e; rw [← e, h0] at e2; cases e2
  · intro e; rw [← e, h1] at e2; cases e2
  · intro e; rw [← e, h2] at e2; cases e2

/-- The same behind a store into blocks of the call's own. -/
theorem RefPost.back {w0 w w' w2 : World} {r : Option (Int × Int)} {rows : List ByteArray} {e : Ending} (h : RefPost w r rows e w') (hb0 : Below w0.heap.size w0 w2) (hs : ∀ a, StrsAt w' a rows → StrsAt w2 a rows) : RefPost w0 r rows e w2 := by
  obtain ⟨-, h⟩ := h
  refine ⟨hb0, ?_⟩
  cases r with
  | none => obtain ⟨a, c, e, h1⟩ := h; exact ⟨a, c, e, hs a h1⟩
  | some p => exact h

theorem srcAt_empty (w : World) (a : Option Addr) (c : Nat) : SrcAt w (.slice a 0 c) [] := by
  cases a with
  | none => exact .inl ⟨_, rfl, rfl⟩
  | some ad => exact .inr ⟨ad, _, rfl, fun j hj => absurd hj (by simp)⟩

theorem bl_or {x y : List UInt8} (h : Op.bytesLess y x = false) : Op.bytesLess x y = true ∨ Op.bytesLess x y = false ∧ (x == y) = true := by
  cases h1 : Op.bytesLess x y with
  | true => exact .inl rfl
  | false => exact .inr ⟨rfl, by rw [beq_iff_eq]; exact bl_total h1 h⟩

theorem bl_neq {x y : List UInt8} (h : Op.bytesLess y x = true) : (x == y) = false := by
  rw [beq_eq_false_iff_ne]
  rintro rfl
  rw [bl_irrefl] at h
  cases h

set_option maxHeartbeats 2000000 in
set_option maxRecDepth 100000 in
theorem refbuild_rest (wd ky : Nat) (a : Option Addr) (cap : Nat) (xs : List ByteArray) (w : World) (h : StrsAt w a xs) (hm : mayB wd ky = true) (hl : xs.length ≤ 100) (hz : ∀ x ∈ xs, x.size ≤ 100) :
    Calls Tryd.prog 10 #[.int .i64 wd, .int .i64 ky, .slice a xs.length cap] w (RefBuilt w wd ky xs) := by
  have hmb := hm
  simp only [mayB, Bool.and_eq_true, decide_eq_true_eq] at hmb
  obtain ⟨hk1, hk2, hw⟩ := hmb
  have HM := Lib.hid hm
  have HS := Lib.hid h
  have HZ := Lib.hid hz
  have d1 : decide ((ky : Int) < 1) = false := decide_eq_false (by omega)
  have d2 : decide (wd < ky) = false := decide_eq_false (by omega)
  have d3 : decide (255 < (wd : Int)) = false := decide_eq_false (by omega)
  clear hm h hz
  go_enter Tryd.func10, Tryd.ntmps10
  go_wp2_with fail
  clear d1 d2 d3
  have hst : InsSt w (w.alloc (.cells #[.slice none 0 0, .int .i64 0, .int .i64 0] 28)) none [] :=
    ⟨(Below.refl _ _).alloc (Nat.le_refl _) _, by simp, World.cell?_alloc_new w _ _ 0, World.cell?_alloc_new w _ _ 1, World.cell?_alloc_new w _ _ 2, fun i => by simp, fun i hi => absurd hi (by simp)⟩
  generalize w.alloc (.cells #[.slice none 0 0, .int .i64 0, .int .i64 0] 28) = W0 at hst ⊢
  have HS0 := Lib.hid hst
  clear hst
  go_loopw [7, 8] (fun v i wr => ∃ (k : Nat) (a7 : Option Addr) (cap7 : Nat) (ls : List ByteArray), i = .int .i64 k ∧ k ≤ xs.length ∧ v = .slice a7 ls.length cap7 ∧ ls.length ≤ cap7 ∧ ls.length = k ∧ ls.Perm (xs.take k) ∧ Hid (∀ x ∈ ls, x.size = wd) ∧ Hid (Ordered ky ls) ∧ Hid (InsSt w wr a7 ls) ∧ Hid (oddFrom wd xs xs.length 0 = oddFrom wd xs (xs.length - k) k)) (fun _ i _ => xs.length - (intOf i).toNat)
  case atStart => exact ⟨0, none, 0, [], rfl, by omega, rfl, by simp, rfl, by simp, Lib.hid (by simp), Lib.hid List.Pairwise.nil, HS0, rfl⟩
  case round =>
    obtain ⟨k, a7, cap7, ls, rfl, hk, rfl, hc7, hlk, hpm, HLZ, HO, HG, HB⟩ := hrel
    by_cases hlt : k < xs.length
    · obtain ⟨b, off, rfl, hc0⟩ := HS.out k hlt
      have hcx := (HG.out.b.cell (p := ⟨b, off + k, none⟩) (World.block_lt_of_cell? _ _ hc0)).trans hc0
      have hzx := HZ.out xs[k] (List.getElem_mem hlt)
      have hyx : xs[k]? = some xs[k] := List.getElem?_eq_getElem hlt
      have HYX := Lib.hid hyx
      generalize xs[k] = y at hcx hzx HYX
      by_cases hys : y.size = wd
      · have heq : ((y.size : Int) != (wd : Int)) = false := by rw [hys]; simp
        have heq2 : ((y.size : Int) == (wd : Int)) = true := by rw [hys]; simp
        have HOD := Lib.hid (HB.out.trans (oddFrom_step HYX.out (by rw [hys])))
        have HPM := Lib.hid hpm
        have HLK := Lib.hid hlk
        have hlen : ls.length ≤ 100 := by omega
        have hky : (ky : Int) ≤ (y.size : Int) := by omega
        have HYS := Lib.hid hys
        clear hys hpm hlk hc0
        go_upto_block 2 with fail
        go_cut [9] (fun s9 wx => ∃ j m : Nat, s9 = .int .i64 j ∧ j ≤ ls.length ∧ (ls.takeWhile (notBehind ky y)).length = j ∧ wx = wr.drewN m)
        case first =>
          go_wp2_with fail
          go_loopw [9] (fun s9 wr2 => ∃ j m : Nat, s9 = .int .i64 j ∧ j ≤ ls.length ∧ Hid (∀ i (hi : i < j) (hl : i < ls.length), notBehind ky y ls[i] = true) ∧ wr2 = wr.drewN m) (fun s9 _ => ls.length - (intOf s9).toNat)
          case atStart => exact ⟨0, 0, rfl, by omega, Lib.hid (fun i hi => by omega), rfl⟩
          case round =>
            obtain ⟨j, m, rfl, hj, HW, rfl⟩ := hrel
            by_cases hltj : j < ls.length
            · obtain ⟨b1, off1, rfl, hcj⟩ := HG.out.own j hltj
              have hzj := HLZ.out ls[j] (List.getElem_mem hltj)
              have hnb : notBehind ky y ls[j] = !Op.bytesLess (y.extract 0 ky).toList (ls[j].extract 0 ky).toList := rfl
              have HNB := Lib.hid hnb
              have hkz : (ky : Int) ≤ (ls[j].size : Int) := by omega
              have hjl : (j : Int) < (ls.length : Int) := by omega
              clear hnb hzj
              cases hbl : Op.bytesLess (y.extract 0 ky).toList (ls[j].extract 0 ky).toList with
              | false =>
                have HW2 := Lib.hid (show ∀ i (hi : i < j + 1) (hl : i < ls.length), notBehind ky y ls[i] = true by
                  intro i hi hl
                  rcases Nat.lt_or_ge i j with h1 | h1
                  · exact HW.out i h1 hl
                  · obtain rfl : i = j := by omega
                    rw [HNB.out, hbl]; rfl)
                have hor := bl_or hbl
                clear HNB HW hbl
                generalize ls[j] = z at *
                rcases hor with hor | ⟨hor, hor2⟩
                all_goals
                  go_wp2_with fail
                  go_quiet (fail)
                  go_wp2_with fail
                  go_roundw
                  case rel => exact ⟨j + 1, m + nq, by go_num, by omega, HW2, rfl⟩
                  case measure => simp [intOf]; omega
              | true =>
                have HE := Lib.hid (takeWhile_len (p := notBehind ky y) hj (fun i hi => HW.out i hi (by omega)) (fun h => by rw [HNB.out, hbl]; rfl))
                have hn1 := bl_asymm hbl
                have hn2 := bl_neq hbl
                clear HNB HW hbl
                generalize ls[j] = z at *
                go_wp2_with fail
                go_quiet (fail)
                go_wp2_with fail
                go_meet
                exact ⟨j, m + nq, rfl, hj, HE.out, by rw [World.drewN_drewN]⟩
            · have HE := Lib.hid (takeWhile_len (p := notBehind ky y) hj (fun i hi => HW.out i hi (by omega)) (fun h => absurd h hltj))
              go_wp2_with fail
              go_quiet (fail)
              go_wp2_with fail
              go_meet
              exact ⟨j, m + nq, rfl, hj, HE.out, by rw [World.drewN_drewN]⟩
        case rest =>
          obtain ⟨j, m, rfl, hj, htw, rfl⟩ := hcut
          have HTW := Lib.hid htw
          have hb1 := below_drewN (Below.refl wr.heap.size wr) m
          have HS1 := Lib.hid (HG.out.own.below hb1)
          have hcx1 := (hb1.cell (p := ⟨b, off + k, none⟩) (World.block_lt_of_cell? _ _ hcx)).trans hcx
          have HB1 := Lib.hid hb1
          clear htw hb1 hcx
          generalize wr.drewN m = W1 at HS1 hcx1 HB1 ⊢
          go_upto_region 12 with fail
          go_cut [10] (fun s10 wx => RowS wx W1.heap.size s10 (ls.drop j) ∧ Below W1.heap.size W1 wx)
          case first =>
            have hb2 : Below W1.heap.size W1 (W1.alloc (.cells #[] 9)) := (Below.refl _ _).alloc (Nat.le_refl _) _
            have HR0 := Lib.hid (row_new W1 W1.heap.size (Nat.le_refl _))
            rcases Nat.lt_or_ge j cap7 with hcj | hcj
            · have hne : ¬ cap7 = j := by omega
              have hx := HS1.out.behind j cap7 hj hc7
              rw [if_neg hne] at hx
              have HX := Lib.hid (hx.below hb2)
              have HB2 := Lib.hid hb2
              clear hx hb2
              go_wp2_with (at_builtin; refine append_list rfl _ _ rfl W1.heap.size _ [] (ls.drop j) rfl HR0.out HX.out (by simp; omega) HB2.out.size ?_; intro v2 W2 hr2 hg2)
              have hb3 := HB2.out.grown hg2 HB2.out.size (fun r e => by cases e; exact Nat.le_refl _)
              go_meet
              exact ⟨by rw [List.nil_append] at hr2; exact hr2, hb3⟩
            · obtain rfl : j = ls.length := by omega
              obtain rfl : cap7 = ls.length := by omega
              have HX := Lib.hid (srcAt_empty (W1.alloc (.cells #[] 9)) a7)
              have HB2 := Lib.hid hb2
              clear hb2
              go_wp2_with (at_builtin; refine append_list rfl _ _ rfl W1.heap.size _ [] [] rfl HR0.out (HX.out _) (by simp) HB2.out.size ?_; intro v2 W2 hr2 hg2)
              have hb3 := HB2.out.grown hg2 HB2.out.size (fun r e => by cases e; exact Nat.le_refl _)
              go_meet
              exact ⟨by rw [List.drop_length]; exact hr2, hb3⟩
          case rest =>
            obtain ⟨hr2, hb2⟩ := hcut
            generalize wc = W2 at hr2 hb2 ⊢
            have hcx2 : W2.drew.cell? ⟨b, off + k, none⟩ = some (.string y) := (hb2.cell (p := ⟨b, off + k, none⟩) (World.block_lt_of_cell? _ _ hcx1)).trans hcx1
            have HS2 := Lib.hid (HS1.out.below hb2)
            have HB2 := Lib.hid hb2
            have HR2 := Lib.hid hr2
            have hjc : j ≤ cap7 := by omega
            clear hb2 hr2 hcx1
            go_wp2_with fail
            refine wp_region_any (by kernel_rfl) ?_
            refine wpAny_take (i := 0) (v := ?_) rfl (by kernel_rfl) (by kernel_rfl) (by kernel_rfl) (fun _ _ _ h => h) (Or.inl ⟨by rfl, by intro w; go_simp; rfl⟩) ?_
            refine wpAny_take (i := 1) (v := ?_) rfl (by kernel_rfl) (by kernel_rfl) (by kernel_rfl) (fun _ _ _ h => h) (Or.inl ⟨by rfl, by intro w; go_simp; rfl⟩) ?_
            refine wpAny_take (i := 2) (v := ?_) rfl (by kernel_rfl) (by kernel_rfl) (by kernel_rfl) (fun _ _ _ h => h) (Or.inl ⟨by rfl, by intro w; go_simp; rfl⟩) ?_
            refine wpAny_take (i := 3) (v := ?_) rfl (by kernel_rfl) (by kernel_rfl) (by kernel_rfl) (fun _ _ _ h => h) (Or.inl ⟨by rfl, by intro w; go_simp; rfl⟩) ?_
            refine wpAny_take (i := 4) (v := ?_) rfl (by kernel_rfl) (by kernel_rfl) (by kernel_rfl) (fun _ _ _ h => h) (Or.inl ⟨by rfl, by intro w; go_simp; rfl⟩) ?_
            refine wpAny_take (i := 5) (v := ?_) rfl (by kernel_rfl) (by kernel_rfl) (by kernel_rfl) (fun _ _ _ h => h) (Or.inl ⟨by rfl, by intro w; go_simp; rfl⟩) ?_
            refine wpAny_take (i := 6) (v := ?_) rfl (by kernel_rfl) (by kernel_rfl) (by kernel_rfl) (fun _ _ _ h => h) (Or.inl ⟨by rfl, by intro w; go_simp; rfl⟩) ?_
            refine wpAny_take (i := 10) (v := ?_) rfl (by kernel_rfl) (by kernel_rfl) (by kernel_rfl) (fun _ _ _ h => h) (Or.inl ⟨by rfl, by intro w; go_simp; rfl⟩) ?_
            change wpAny _ _ _ _ _ _ _ (World.drew W2)
            refine wpAny_ready (rs := [7]) (by kernel_rfl) (by simp) ?_
            refine AllReady.cons rfl (fun K hK => ?_) AllReady.nil
            go_simp
            refine hK _ _ ?_
            clear hK K
            refine wpAny_ready (rs := [8]) (by kernel_rfl) (by simp) ?_
            refine AllReady.cons rfl (fun K hK => ?_) AllReady.nil
            go_simp
            refine hK _ _ ?_
            clear hK K
            have hb4 : Below W2.heap.size W2 (W2.alloc (.cells #[.string y] 9)).drew := ((Below.refl _ _).alloc (Nat.le_refl _) _).drew
            have hs4 := (HS2.out.below hb4).take j
            have hl4 : (ls.take j).length = j := by rw [List.length_take]; omega
            have hy4 : (W2.alloc (.cells #[.string y] 9)).drew.cell? ((⟨W2.heap.size, 0, none⟩ : Addr).add 0) = some (.string y) := by
              rw [add_plain]
              exact World.cell?_alloc_new W2 _ _ 0
            refine wpAny_ready (rs := [9]) (by kernel_rfl) (by simp) ?_
            refine AllReady.cons rfl (fun K hK => ?_) AllReady.nil
            rw [if_pos (by rfl)]
            refine append_full_op _ _ rfl a7 (ls.take j) (by rw [hl4]; rfl) hs4 ⟨W2.heap.size, 0, none⟩ 1 y (by rfl) hy4 (by omega) ?_
            intro v5 W5 hr5 hb5
            refine hK _ _ ?_
            clear hK K
            have hb25 : Below W2.heap.size W2 W5 := hb4.trans (hb5.mono hb4.size)
            have hx5 := HR2.out.src.below hb25
            refine wpAny_ready (rs := [11]) (by kernel_rfl) (by simp) ?_
            refine AllReady.cons rfl (fun K hK => ?_) AllReady.nil
            rw [if_pos (by rfl)]
            refine append_op _ _ rfl _ _ _ _ (by rfl) hr5 (by exact hx5) (by simp; omega) hb5.size ?_
            intro v6 W6 hr6 hg6
            refine hK _ _ ?_
            clear hK K
            have hb6 : Below W2.heap.size W2 W6 := (hb25.grown hg6 hb25.size (fun r e => Nat.le_trans hb4.size (hr5.1.ge r e)))
            refine wpAny_take (i := 12) (v := ?_) rfl (by kernel_rfl) (by kernel_rfl) (by kernel_rfl) (fun _ _ _ h => h) (Or.inl ⟨by rfl, by intro w; go_simp; rfl⟩) ?_
            refine wpAny_done (by kernel_rfl) ?_ _
            have hins : ls.take j ++ [y] ++ ls.drop j = insL ky ls y := by rw [take_at, HTW.out]; simp
            rw [hins] at hr6
            obtain ⟨a8, c8, rfl, hs8⟩ := hr6.1.strs
            have hc8 : (insL ky ls y).length ≤ c8 := hr6.1.cap _ _ _ rfl
            have HI := Lib.hid (insL_perm ky ls y)
            have hl8 : (insL ky ls y).length = k + 1 := by rw [HI.out.length_eq, List.length_cons, HLK.out]
            have hbr : Below wr.heap.size wr W6 := (HB1.out.trans (HB2.out.mono HB1.out.size)).trans (hb6.mono (Nat.le_trans HB1.out.size HB2.out.size))
            have hst8 := HG.out.next hbr hs8
            have hp8 : (insL ky ls y).Perm (xs.take (k + 1)) := by
              have hyk := HYX.out
              rw [List.getElem?_eq_getElem hlt] at hyk
              rw [List.take_succ_eq_append_getElem hlt, Option.some.inj hyk]
              exact HI.out.trans ((HPM.out.cons y).trans (List.perm_append_comm (l₁ := [y])))
            have hz8 : ∀ x ∈ insL ky ls y, x.size = wd := fun x hx => by
              rcases List.mem_cons.1 (HI.out.mem_iff.1 hx) with rfl | h
              · exact HYS.out
              · exact HLZ.out x h
            have H8 := Lib.hid hst8
            have HP8 := Lib.hid hp8
            have HZ8 := Lib.hid hz8
            have HL8 := Lib.hid hl8
            have HC8 := Lib.hid hc8
            clear hst8 hp8 hz8 hl8 hc8 hs8 hr6 hins hbr hb6 hb25 hs4 hl4 hy4 hb4 hb5 hr5 hx5 hg6
            go_simp
            go_wp2_with fail
            go_roundw
            case rel => exact ⟨k + 1, a8, c8, insL ky ls y, by go_num, by omega, rfl, HC8.out, HL8.out, HP8.out, HZ8, Lib.hid (HO.out.ins y), H8, HOD⟩
            case measure => simp [intOf]; omega
      · have hne : ((y.size : Int) == (wd : Int)) = false := by rw [beq_eq_false_iff_ne]; omega
        have HE := Lib.hid (show oddFrom wd xs xs.length 0 = some k by
          rw [HB.out]
          refine oddFrom_stop hlt ?_
          have := HYX.out
          rw [List.getElem?_eq_getElem hlt] at this
          rw [Option.some.inj this]; omega)
        obtain ⟨-, -, r0, r1, r2, f0, -⟩ := HG.out
        have fr0 := f0 0
        have fr1 := f0 1
        have fr2 := f0 2
        clear f0 hys
        go_wp2_with fail
        refine bodyPost_ret (v := .agg #[.slice none 0 0, .int .i64 12, .int .i64 k]) ?_ rfl ?_
        · simp [results, Tryd.f10, go_sem, r0, r1, r2]
        · exact .inr (.inl ⟨k, HM.out, HE.out, ((HG.out.b.setCell (p := ⟨w.heap.size, 0, none⟩) (by simp) _).setCell (p := ⟨w.heap.size, 1, none⟩) (by simp) _).setCell (p := ⟨w.heap.size, 2, none⟩) (by simp) _, rfl⟩)
    · obtain rfl : k = xs.length := by omega
      rw [List.take_length] at hpm
      have hsz : ∀ x ∈ ls, x.size ≤ 100 := fun x hx => HZ.out x (hpm.mem_iff.1 hx)
      have HPM := Lib.hid hpm
      have HSZ := Lib.hid hsz
      have HLS := Lib.hid HG.out.own
      have HNO := Lib.hid (show oddFrom wd xs xs.length 0 = none by rw [HB.out, Nat.sub_self]; rfl)
      clear hpm hsz hlt
      go_wp2_with fail
      go_loopw [11, 12] (fun v i wr2 => ∃ j : Nat, j ≤ ls.length ∧ i = .int .i64 j ∧ v = .string (catB (ls.take j)) ∧ wr2 = wr) (fun _ i _ => ls.length - (intOf i).toNat)
      case atStart => exact ⟨0, by omega, rfl, by rw [List.take_zero]; rfl, rfl⟩
      case round =>
        obtain ⟨j, hj, rfl, rfl, hwr⟩ := hrel
        subst hwr
        by_cases hlt : j < ls.length
        · obtain ⟨b, off, rfl, hc⟩ := HLS.out j hlt
          have hcat := catB_snoc (ls.take j) ls[j]
          rw [← List.take_succ_eq_append_getElem hlt] at hcat
          have HCAT := Lib.hid hcat
          have hs1 : (catB (ls.take j)).size ≤ 10000 := by
            have := catB_size_le (ls.take j) 100 (fun x hx => HSZ.out x (List.mem_of_mem_take hx))
            rw [List.length_take] at this; omega
          have hs2 := HSZ.out ls[j] (List.getElem_mem hlt)
          clear hcat
          generalize ls[j] = y at hc HCAT hs2
          go_wp2_with fail
          exact ⟨⟨j + 1, by omega, by simp, by rw [HCAT.out], trivial⟩, by simp [intOf]; omega⟩
        · obtain rfl : j = ls.length := by omega
          rw [List.take_length]
          have hs1 : (catB ls).size ≤ 10000 := by
            have := catB_size_le ls 100 (fun x hx => HSZ.out x hx)
            omega
          clear hlt
          go_wp2_with fail
          refine (refnew_any wd ky (catB ls) wr (by omega)).mono ?_
          intro e W2 hpost
          obtain ⟨av, nv, cv, k5, a5, rfl⟩ := hpost.agg
          have hb5 := hpost.1
          have hs5 := HG.out.s
          have g0 := (hb5.cell (p := ⟨w.heap.size, 0, none⟩) (by show w.heap.size < _; omega)).trans HG.out.r0
          have g1 := (hb5.cell (p := ⟨w.heap.size, 1, none⟩) (by show w.heap.size < _; omega)).trans HG.out.r1
          have g2 := (hb5.cell (p := ⟨w.heap.size, 2, none⟩) (by show w.heap.size < _; omega)).trans HG.out.r2
          have fr0 := (hb5.frozen (p := ⟨w.heap.size, 0, none⟩) (by show w.heap.size < _; omega)).trans (HG.out.f0 0)
          have fr1 := (hb5.frozen (p := ⟨w.heap.size, 1, none⟩) (by show w.heap.size < _; omega)).trans (HG.out.f0 1)
          have fr2 := (hb5.frozen (p := ⟨w.heap.size, 2, none⟩) (by show w.heap.size < _; omega)).trans (HG.out.f0 2)
          rw [Int.toNat_natCast, rowsL_cat HLZ.out (by omega)] at hpost
          have HP := Lib.hid hpost
          have HB5 := Lib.hid (HG.out.b.trans (hb5.mono HG.out.b.size))
          clear hpost hb5 hs5
          go_wp2_with fail
          refine bodyPost_ret (v := .agg #[.slice av nv cv, .int .i64 k5, .int .i64 a5]) ?_ rfl ?_
          · simp [results, Tryd.f10, go_sem, g0, g1, g2]
          · refine .inr (.inr ⟨ls, HM.out, HNO.out, HPM.out, by simpa using HO.out, HP.out.back (((HB5.out.setCell (p := ⟨w.heap.size, 0, none⟩) (by simp) _).setCell (p := ⟨w.heap.size, 1, none⟩) (by simp) _).setCell (p := ⟨w.heap.size, 2, none⟩) (by simp) _) (fun a h => h.set3 g0 g1 g2 _ _ _)⟩)

end Go.Proofs.YtfeikolfdggnfaaDoor
