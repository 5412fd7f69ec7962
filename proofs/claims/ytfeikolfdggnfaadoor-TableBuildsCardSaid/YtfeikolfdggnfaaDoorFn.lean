/- looks: what was made is what the document says. -/
import Derived.Test.YtfeikolfdggnfaaDoorFm
namespace Go.Proofs.YtfeikolfdggnfaaDoor
open Go.RowKit Go.Shelf

set_option maxHeartbeats 1000000 in
set_option maxRecDepth 100000 in
theorem looks_err (g : Nat) (kind at_ key : Int) (hk : kind = 1 ∨ kind = 12 ∨ kind = 13) (w : World) (hv : ErrVar w) (hfa : w.heap[g]? = some (faultObj kind at_ tableWord)) :
    Calls Tryd.prog 40 #[.pointer none, faultV g, .agg #[.slice none 0 0, .int .i64 kind, .int .i64 at_], .int .i64 key] w fun e w' => e = .returned (.bool true) ∧ Below w.heap.size w w' := by
  have hg : g < w.heap.size := (Array.getElem?_eq_some_iff.1 hfa).1
  obtain ⟨W, hWe⟩ : ∃ W, w.alloc (.cells #[.slice none 0 0, .int .i64 kind, .int .i64 at_] 28) = W := ⟨_, rfl⟩
  have hb : Below w.heap.size w W := by rw [← hWe]; exact (Below.refl _ _).alloc (Nat.le_refl _) _
  have c1 : W.cell? ⟨w.heap.size, 1, none⟩ = some (.int .i64 kind) := by rw [← hWe]; exact World.cell?_alloc_new _ _ _ 1
  have c2 : W.cell? ⟨w.heap.size, 2, none⟩ = some (.int .i64 at_) := by rw [← hWe]; exact World.cell?_alloc_new _ _ _ 2
  have HF := Lib.hid ((hb.block g hg).trans hfa)
  have hKF := fun (u : Later W) => Calls.later (kind_fault g kind at_ tableWord u.val (((hv.below hb)).below u.below) ((u.below.block g (Array.getElem?_eq_some_iff.1 HF.out).1).trans HF.out))
  have HKF := Lib.hid hKF
  have HB := Lib.hid hb
  have HWE := Lib.hid hWe
  have hk0 : (kind == 0) = false := by rw [beq_eq_false_iff_ne]; omega
  have hk1 : (kind != 0) = true := by rw [bne_iff_ne]; omega
  have HKK := Lib.hid hk
  clear hKF hb hWe hk hv hfa
  unfold faultV at *
  go_enter Tryd.func40, Tryd.ntmps40
  go_wp2_with fail
  rw [HWE.out]
  clear HWE
  have g1 := Later.cell c1
  refine wp_region_later (by kernel_rfl) (by kernel_rfl) ?_
  repeat (go_big_quiet_step ((go_at_call 13; exact HKF.out _)))
  refine wpQuiet_nil ?_
  rintro _ ⟨u, rfl⟩
  obtain ⟨W1, hb1⟩ := u
  change Exit.then _ _ _ _ W1
  replace c1 := (hb1.cell (World.block_lt_of_cell? W _ c1)).trans c1
  replace c2 := (hb1.cell (World.block_lt_of_cell? W _ c2)).trans c2
  have HF1 := Lib.hid ((hb1.block g (Array.getElem?_eq_some_iff.1 HF.out).1).trans HF.out)
  have HB1 := Lib.hid (HB.out.trans (hb1.mono HB.out.size))
  have HWH := Lib.hid (whats_any g kind at_ tableWord W1 HF1.out)
  clear hb1 g1 HKF
  unfold faultV at HWH
  go_wp2_with fail
  refine HWH.out.mono ?_
  rintro e W2 ⟨⟨b, c, rfl, hcw⟩, hb2⟩
  replace c1 := (hb2.cell (World.block_lt_of_cell? W1 _ c1)).trans c1
  replace c2 := (hb2.cell (World.block_lt_of_cell? W1 _ c2)).trans c2
  have hf2 := (hb2.block g (Array.getElem?_eq_some_iff.1 HF1.out).1).trans HF1.out
  have HB2 := Lib.hid (HB1.out.trans (hb2.mono HB1.out.size))
  have HPL := Lib.hid (fun (u : Later W2) => Calls.later (place_any g kind at_ tableWord u.val ((u.below.block g (Array.getElem?_eq_some_iff.1 hf2).1).trans hf2)))
  have g1 := Later.cell c2
  have g2 := Later.cell hcw
  unfold faultV at HPL
  unfold tableWord at g2
  clear hb2 hf2 HWH HF HF1 c1 c2 hcw
  go_wp2_with fail
  refine wp_region_later (by kernel_rfl) (by kernel_rfl) ?_
  repeat (go_big_quiet_step ((go_at_call 56; exact HPL.out _)))
  refine wpQuiet_nil ?_
  rintro _ ⟨u, rfl⟩
  obtain ⟨W3, hb3⟩ := u
  change Exit.then _ _ _ _ W3
  have HB3 := Lib.hid (HB2.out.trans (hb3.mono HB2.out.size))
  clear g1 g2 hb3 HPL
  go_wp2_with fail
  go_ret
  exact ⟨rfl, HB3.out⟩

set_option maxHeartbeats 2000000 in
set_option maxRecDepth 100000 in
theorem looks_ok (g wd ky n : Nat) (a : Option Addr) (cap : Nat) (ys : List ByteArray) (bs : ByteArray) (w : World) (hbs : catB ys = bs) (hn : ys.length = n) (ok : TabOk wd ky bs n) (hT : TabAt w g wd ky bs) (hs : StrsAt w a ys) (hz : ∀ x ∈ ys, x.size = wd)
    (hr : Rising ky ys) (hl : n ≤ 10000) :
    Calls Tryd.prog 40 #[.pointer (some ⟨g, 0, none⟩), .nilIface, .agg #[.slice a n cap, .int .i64 0, .int .i64 0], .int .i64 ky] w fun e w' => e = .returned (.bool true) ∧ Below w.heap.size w w' := by
  obtain ⟨W, hWe⟩ : ∃ W, w.alloc (.cells #[.slice a n cap, .int .i64 0, .int .i64 0] 28) = W := ⟨_, rfl⟩
  have hb : Below w.heap.size w W := by rw [← hWe]; exact (Below.refl _ _).alloc (Nat.le_refl _) _
  have c0 : W.cell? ⟨w.heap.size, 0, none⟩ = some (.slice a n cap) := by rw [← hWe]; exact World.cell?_alloc_new _ _ _ 0
  have c1 : W.cell? ⟨w.heap.size, 1, none⟩ = some (.int .i64 0) := by rw [← hWe]; exact World.cell?_alloc_new _ _ _ 1
  have HT := Lib.hid (hT.below hb)
  have HS := Lib.hid (hs.below hb)
  have HB := Lib.hid hb
  have HWE := Lib.hid hWe
  have HZ := Lib.hid hz
  have HRI := Lib.hid hr
  have HBS := Lib.hid hbs
  have HN := Lib.hid hn
  have HRW : Hid (∀ i (hi : i < n), ys[i]? = some (rowB bs wd i)) := Lib.hid (fun i hi => by rw [← hbs, List.getElem?_eq_getElem (by omega), rowB_cat hz (by omega)])
  have HFD : Hid (∀ (r i : Nat), i < n → FromOf bs wd ky n ((rowB bs wd i).extract 0 ky) r → findV bs wd ky n ((rowB bs wd i).extract 0 ky) r = .tuple #[.string (rowB bs wd i), .bool true]) := Lib.hid (fun r i hi hf => by
    subst hbs hn
    have h := find_at hz hr hi (k := (rowB (catB ys) wd i).extract 0 ky) (r := r) (by rw [rowB_cat hz hi]; rfl) hf
    rw [h, rowB_cat hz hi])
  clear hb hWe hT hs hz hr hbs hn
  go_enter Tryd.func40, Tryd.ntmps40
  go_wp2_with fail
  rw [HWE.out]
  clear HWE
  go_quiet ((go_at_call 13; exact (kind_nil _).mono (fun e w' h => ⟨h.1, _, h.2.symm⟩)))
  go_wp2_with fail
  go_loopw [10, 11] (fun v i wr => ∃ j : Nat, i = .int .i64 j ∧ j ≤ n ∧ v = .string (catB (ys.take j)) ∧ Hid (Below W.heap.size W wr)) (fun _ i _ => n - (intOf i).toNat)
  case atStart => exact ⟨0, rfl, by omega, by rw [List.take_zero]; rfl, Lib.hid (below_drewN (Below.refl _ _) _)⟩
  case round =>
    obtain ⟨j, rfl, hj, rfl, HBR⟩ := hrel
    have d0 := (HBR.out.cell (World.block_lt_of_cell? W _ c0)).trans c0
    have hTw := HT.out.below HBR.out
    by_cases hlt : j < n
    · have hjl : j < ys.length := by have := HN.out; omega
      obtain ⟨b, off, hab, hc⟩ := (HS.out.below HBR.out) j hjl
      have hcc := HRW.out j hlt
      have hcat := catB_snoc (ys.take j) ys[j]
      rw [← List.take_succ_eq_append_getElem hjl] at hcat
      rw [List.getElem?_eq_getElem hjl] at hcc
      rw [Option.some.inj hcc] at hc hcat
      have HCAT := Lib.hid hcat
      have hfit := row_fits ok hlt
      have hs1 : (catB (ys.take j)).size = j * wd := by
        rw [size_cat (wd := wd) (fun x hx => HZ.out x (List.mem_of_mem_take hx)), List.length_take, Nat.min_eq_left (by omega)]
      have hs2 : (catB (ys.take j)).size + wd ≤ 140737488355328 := by have := ok.hs; omega
      have hzr : (rowB bs wd j).size = wd := by simp [rowB]; omega
      have hzk : (ky : Int) ≤ ((rowB bs wd j).size : Int) := by have := ok.hk2; omega
      have hgm : ((rowB bs wd j).extract 0 ky).size ≤ maxLen := by have := ok.hw2; rw [ByteArray.size_extract]; unfold maxLen; omega
      have HRY := Lib.hid (fun W' hT' => row_yes g wd ky n (j : Int) bs W' (by omega) (by rw [Int.toNat_natCast]; exact hlt) ok hT')
      have HFJ := Lib.hid (fun r => HFD.out r j hlt)
      have HJ := Lib.hid hjl
      have hzr2 : (rowB bs wd j).size ≤ 255 := by have := ok.hw2; omega
      have HTW := Lib.hid hTw
      have HGM := Lib.hid hgm
      have hs3 : (catB (ys.take j)).size ≤ 140737488355328 := by omega
      clear hcc hcat hjl hs1 hs2 hzr hfit hTw hgm
      cases hab
      rw [Int.toNat_natCast] at HRY
      generalize rowB bs wd j = row at *
      go_wp2_with fail
      refine (HRY.out _ HTW.out).mono ?_
      rintro e w' ⟨rfl, m1, rfl⟩
      have hbd := below_drewN (Below.refl wr.heap.size wr) m1
      generalize wr.drewN m1 = W2 at hbd ⊢
      have d2 := (hbd.cell (World.block_lt_of_cell? wr _ d0)).trans d0
      have hc2 := (hbd.cell (World.block_lt_of_cell? wr _ hc)).trans hc
      have HT2 := Lib.hid (HTW.out.below hbd)
      have HB2 := Lib.hid (HBR.out.trans (hbd.mono HBR.out.size))
      clear hbd
      go_wp2_with fail
      refine (find_any g wd ky n bs (row.extract 0 ky) W2 ok HGM.out HT2.out).mono ?_
      rintro e W3 ⟨r, hf, rfl, hb3⟩
      rw [HFJ.out r hf]
      have d3 := (hb3.cell (World.block_lt_of_cell? W2 _ d2)).trans d2
      have hc3 := (hb3.cell (World.block_lt_of_cell? W2 _ hc2)).trans hc2
      have HB3 := Lib.hid (HB2.out.trans (hb3.mono HB2.out.size))
      clear hb3 hf d2 hc2 d0 hc
      go_wp2_with fail
      go_roundw
      case rel => exact ⟨j + 1, by go_num, by omega, by rw [HCAT.out], HB3⟩
      case measure => simp [intOf]; omega
    · obtain rfl : j = n := by omega
      have hall : catB (ys.take j) = bs := by rw [List.take_of_length_le (by have := HN.out; omega)]; exact HBS.out
      rw [hall]
      have HTW := Lib.hid hTw
      clear hall hTw hlt
      go_wp2_with fail
      refine (row_no g wd ky j (-1) bs wr (.inl (by omega)) ok HTW.out).mono ?_
      rintro e w' ⟨rfl, m1, rfl⟩
      have hbd := below_drewN (Below.refl wr.heap.size wr) m1
      generalize wr.drewN m1 = W2 at hbd ⊢
      have d2 := (hbd.cell (World.block_lt_of_cell? wr _ d0)).trans d0
      have HT2 := Lib.hid (HTW.out.below hbd)
      have HB2 := Lib.hid (HBR.out.trans (hbd.mono HBR.out.size))
      clear hbd
      go_wp2_with fail
      refine (row_no g wd ky j (j : Int) bs W2 (.inr (by omega)) ok HT2.out).mono ?_
      rintro e w' ⟨rfl, m2, rfl⟩
      have hbd := below_drewN (Below.refl W2.heap.size W2) m2
      generalize W2.drewN m2 = W3 at hbd ⊢
      have d3 := (hbd.cell (World.block_lt_of_cell? W2 _ d2)).trans d2
      have HT3 := Lib.hid (HT2.out.below hbd)
      have HB3 := Lib.hid (HB2.out.trans (hbd.mono HB2.out.size))
      clear hbd d2 d0
      go_wp2_with fail
      go_quiet (first
        | (go_at_call 17; exact Calls.quiet_of (len_any g wd ky j bs _ ok (HT3.out.drewN _)))
        | (go_at_call 19; exact Calls.quiet_of (bytes_any g wd ky bs _ (HT3.out.drewN _))))
      go_wp2_with fail
      go_ret
      exact ⟨rfl, HB.out.trans ((below_drewN HB3.out _).mono HB.out.size)⟩

end Go.Proofs.YtfeikolfdggnfaaDoor
