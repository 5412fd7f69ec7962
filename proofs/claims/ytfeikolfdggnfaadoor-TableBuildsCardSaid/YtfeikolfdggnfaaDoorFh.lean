/- finds, walked: of one key. -/
import Derived.Test.YtfeikolfdggnfaaDoorFg
import Derived.Test.YtfeikolfdggnfaaDoorTx
import Derived.Test.YtfeikolfdggnfaaDoorTn0
import Derived.Sort.CutIn
namespace Go.Proofs.YtfeikolfdggnfaaDoor
open Go.RowKit Go.Shelf

theorem refIdx_spec {xs : List ByteArray} {size : Nat} {k : List UInt8} : ∀ (m i : Nat), i + m = xs.length →
    (refIdx xs size k m i = -1 ∧ ∀ j (hj : j < xs.length), i ≤ j → keyL size xs[j] ≠ k) ∨ ∃ j, ∃ hj : j < xs.length, refIdx xs size k m i = (j : Int) ∧ keyL size xs[j] = k := by
  intro m
  induction m with
  | zero => exact fun i hm => .inl ⟨rfl, fun j hj hij => by omega⟩
  | succ m ih =>
    intro i hm
    have hi : i < xs.length := by omega
    have hg : xs.getD i ⟨#[]⟩ = xs[i] := by simp [List.getD, hi]
    simp only [refIdx, hg]
    by_cases hk : keyL size xs[i] = k
    · rw [if_pos hk]; exact .inr ⟨i, hi, rfl, hk⟩
    · rw [if_neg hk]
      rcases ih (i + 1) (by omega) with ⟨h1, h2⟩ | h
      · refine .inl ⟨h1, fun j hj hij => ?_⟩
        rcases Nat.eq_or_lt_of_le hij with rfl | hlt
        · exact hk
        · exact h2 j hj hlt
      · exact .inr h

/-- The program's Find, and the document's. -/
theorem find_ref {key wd : Nat} {ys : List ByteArray} (hz : ∀ x ∈ ys, x.size = wd) (h : Rising key ys) {r : Nat} {k : ByteArray} (hf : FromOf (catB ys) wd key ys.length k r) :
    (∃ i, i < ys.length ∧ refIdx ys key k.toList ys.length 0 = (i : Int) ∧ findV (catB ys) wd key ys.length k r = .tuple #[.string (rowB (catB ys) wd i), .bool true]) ∨
    (refIdx ys key k.toList ys.length 0 = -1 ∧ findV (catB ys) wd key ys.length k r = .tuple #[.string ⟨#[]⟩, .bool false]) := by
  rcases refIdx_spec (xs := ys) (size := key) (k := k.toList) ys.length 0 (by omega) with ⟨h1, h2⟩ | ⟨j, hj, h1, h2⟩
  · exact .inr ⟨h1, find_none hz (fun i hi => h2 i hi (by omega))⟩
  · exact .inl ⟨j, hj, h1, by rw [find_at hz h hj h2.symm hf, rowB_cat hz hj]⟩

theorem riseB_cat {key wd : Nat} {ys : List ByteArray} (hz : ∀ x ∈ ys, x.size = wd) (h : Rising key ys) : RiseB (catB ys) wd key ys.length := by
  intro i j hij hj
  rw [keyB_cat hz hj, keyB_cat hz (show i < ys.length by omega)]
  exact h.lt i j (by omega) hj hij

/-- The law's arguments, each in a box, and its answer's. -/
structure FnSt (w W : World) (a : Option Addr) (n cap : Nat) (k : ByteArray) (ky : Nat) : Prop where
  b : Below w.heap.size w W
  s : w.heap.size + 4 ≤ W.heap.size
  c0 : W.cell? ⟨w.heap.size, 0, none⟩ = some (.slice a n cap)
  c1 : W.cell? ⟨w.heap.size + 1, 0, none⟩ = some (.string k)
  c2 : W.cell? ⟨w.heap.size + 1 + 1, 0, none⟩ = some (.int .i64 ky)
  c3 : W.cell? ⟨w.heap.size + 1 + 1 + 1, 0, none⟩ = some (.bool false)
  f3 : W.frozen? ⟨w.heap.size + 1 + 1 + 1, 0, none⟩ = false

theorem FnSt.next {w W W' : World} {a : Option Addr} {n cap : Nat} {k : ByteArray} {ky : Nat} (h : FnSt w W a n cap k ky) {B : Nat} (hb : Below B W W') (hB : w.heap.size + 4 ≤ B) (_ : B ≤ W.heap.size) : FnSt w W' a n cap k ky :=
  have hc : ∀ {x : Nat} {v : Value}, x < B → W.cell? ⟨x, 0, none⟩ = some v → W'.cell? ⟨x, 0, none⟩ = some v := fun hx h => (hb.cell (p := ⟨_, 0, none⟩) hx).trans h
  ⟨h.b.trans (hb.mono (by omega)), by have := hb.size; have := h.s; omega, hc (by omega) h.c0, hc (by omega) h.c1, hc (by omega) h.c2, hc (by omega) h.c3,
   (hb.frozen (p := ⟨w.heap.size + 1 + 1 + 1, 0, none⟩) (by show w.heap.size + 1 + 1 + 1 < B; omega)).trans h.f3⟩

theorem strsAt_keeps {w w' : World} {a : Option Addr} {xs : List ByteArray} (h : StrsAt w a xs) {B : Nat} (hb : Below B w w') (hB : w.heap.size ≤ B) : StrsAt w' a xs := h.below (hb.mono hB)

set_option maxHeartbeats 4000000 in
set_option maxRecDepth 100000 in
theorem finds_any (g wd ky n : Nat) (a : Option Addr) (cap : Nat) (ys : List ByteArray) (bs k : ByteArray) (w : World) (hbs : catB ys = bs) (hn : ys.length = n) (ok : TabOk wd ky bs n) (hT : TabAt w g wd ky bs) (hs : StrsAt w a ys) (hz : ∀ x ∈ ys, x.size = wd)
    (hr : Rising ky ys) (hk : k.size ≤ maxLen) (hl : n ≤ 1000) :
    Calls Tryd.prog 15 #[.pointer (some ⟨g, 0, none⟩), .slice a n cap, .string k, .int .i64 ky] w fun e w' => e = .returned (.bool true) ∧ Below w.heap.size w w' := by
  refine (callsIn_wide (n := 9)).1 ?_
  refine callsIn_of_wp_marks Tryd.func15 rfl trivial ?_ rfl
  simp only [Tryd.ntmps15, List.size_toArray, List.length_cons, List.length_nil, Nat.reduceAdd, Nat.reduceSub, Array.replicate_succ, Array.replicate_zero, List.push_toArray, List.append_toArray, List.nil_append, List.cons_append]
  have hFf : ∀ f, Fence.wide.fn f := fun _ => trivial
  have hFd : Fence.wide.depth = none := rfl
  obtain ⟨W, hWe⟩ : ∃ W, (((w.alloc (.cells #[.slice a n cap] 22)).alloc (.cells #[.string k] 9)).alloc (.cells #[.int .i64 ky] 3)).alloc (.cells #[.bool false] 4) = W := ⟨_, rfl⟩
  have hbx : BoxesAt w W [(.slice a n cap, 22), (.string k, 9), (.int .i64 ky, 3), (.bool false, 4)] := by rw [← hWe]; exact boxes4 _ _ _ _ _ _ _ _ _
  have hst : FnSt w W a n cap k ky := ⟨hbx.below, by rw [hbx.size]; simp, hbx.cell 0 _ rfl, hbx.cell 1 _ rfl, hbx.cell 2 _ rfl, hbx.cell 3 _ rfl, hbx.free 3 _ rfl⟩
  have HST := Lib.hid hst
  have HT := Lib.hid (hT.below hbx.below)
  have HS := Lib.hid (hs.below hbx.below)
  have HZ := Lib.hid hz
  have HRI := Lib.hid hr
  have HBS := Lib.hid hbs
  have HN := Lib.hid hn
  have HRB : Hid (RiseB bs wd ky n) := Lib.hid (by rw [← hbs, ← hn]; exact riseB_cat hz hr)
  have HRW : Hid (∀ i (hi : i < n), ys[i]? = some (rowB bs wd i)) := Lib.hid (fun i hi => by rw [← hbs, List.getElem?_eq_getElem (by omega), rowB_cat hz (by omega)])
  have HWE := Lib.hid hWe
  obtain ⟨-, -, c0, c1, c2, -, -⟩ := hst
  clear hWe hbx hT hs hz hr hbs hn
  gi_wp2_with fail
  rw [HWE.out]
  clear HWE
  gi_wp2_with fail
  refine (callsIn_wide.2 (find_any g wd ky n bs k W ok hk HT.out)).mono ?_
  rintro e W1 ⟨r, hf, rfl, hb1⟩
  have hfr := find_ref HZ.out HRI.out (r := r) (k := k) (by rw [HBS.out, HN.out]; exact hf)
  rw [HBS.out] at hfr
  have HSV := Lib.hid (HS.out.below hb1)
  have HT1 := Lib.hid (HT.out.below hb1)
  have hst1 := HST.out.next hb1 HST.out.s (Nat.le_refl _)
  have H1 := Lib.hid hst1
  have HRF := Lib.hid (show Calls Tryd.prog 34 #[.slice a n cap, .string k, .int .i64 ky] W1 fun e w' => e = .returned (.int .i64 (refIdx ys ky k.toList n 0)) ∧ w' = W1 by
    have h := reffind_any a cap ys k ky W1 HSV.out (fun x hx => by rw [HZ.out x hx]; exact ok.hk2) (by rw [HN.out]; omega) (by have := ok.hk2; have := ok.hw2; omega)
    rw [HN.out] at h
    exact h)
  obtain ⟨-, -, d0, d1, d2, d3, e3⟩ := hst1
  rw [HN.out] at hfr
  have hfind : ∃ (s : ByteArray) (okb : Bool) (idx : Int), findV bs wd ky n k r = .tuple #[.string s, .bool okb] ∧ refIdx ys ky k.toList n 0 = idx ∧ ((okb = true ∧ 0 ≤ idx ∧ idx.toNat < n ∧ s = rowB bs wd idx.toNat) ∨ (okb = false ∧ idx = -1 ∧ s = ⟨#[]⟩)) := by
    rcases hfr with ⟨i, hi, h1, h2⟩ | ⟨h1, h2⟩
    · exact ⟨_, true, i, h2, h1, .inl ⟨rfl, by omega, by simpa using hi, by simp⟩⟩
    · exact ⟨_, false, -1, h2, h1, .inr ⟨rfl, rfl, rfl⟩⟩
  obtain ⟨s, okb, idx, h1, h2, h3⟩ := hfind
  rw [h1]
  rw [h2] at HRF
  clear hfr h1 h2 c0 c1 c2 hb1 hf
  gi_wp2_with fail
  refine (callsIn_wide.2 HRF.out).mono ?_
  rintro e w' ⟨rfl, hw⟩
  rw [hw]
  clear hw HRF
  rcases h3 with ⟨rfl, hi0, hin, rfl⟩ | ⟨rfl, rfl, rfl⟩
  case' inl =>
    obtain ⟨i, rfl⟩ := Int.eq_ofNat_of_zero_le hi0
    rw [Int.toNat_natCast] at hin ⊢
    have hinl : i < ys.length := by have := HN.out; omega
    obtain ⟨b, off, rfl, hc⟩ := HSV.out i hinl
    have hcc := HRW.out i hin
    rw [List.getElem?_eq_getElem hinl] at hcc
    rw [Option.some.inj hcc] at hc
    clear hcc hinl
    generalize rowB bs wd i = row at hc ⊢
    gi_wp2_with fail
  case' inr => gi_wp2_with fail
  all_goals
    refine (callsIn_wide.2 (prefix_any g k W1)).mono ?_
    rintro e W5 ⟨rfl, hW5⟩
    have hbx : BoxesAt W1 W5 [(.pointer (some ⟨g, 0, none⟩), 31), (.string k, 9)] := by rw [← hW5]; exact boxes2 _ _ _ _ _
    have hp5 : W5.cell? ⟨W1.heap.size, 0, none⟩ = some (.pointer (some ⟨g, 0, none⟩)) := hbx.cell 0 _ rfl
    have hq5 : W5.cell? ⟨W1.heap.size + 1, 0, none⟩ = some (.string k) := hbx.cell 1 _ rfl
    have hb5 := hbx.below
    have H5 := Lib.hid (H1.out.next hb5 H1.out.s (Nat.le_refl _))
    have HT5 := Lib.hid (HT1.out.below hb5)
    have HS5 := Lib.hid (HSV.out.below hb5)
    have HP5 := Lib.hid hp5
    have HQ5 := Lib.hid hq5
    clear hW5 hbx hp5 hq5 hb5 d0 d1 d2 d3 e3
    have hnn := seq_notNil
    gi_wp2_with fail
    clear hnn
    obtain ⟨W6, hW6⟩ : ∃ W6, W5.alloc (.cells #[.int .i64 0] 3) = W6 := ⟨_, rfl⟩
    have hbx : BoxesAt W5 W6 [(.int .i64 0, 3)] := by rw [← hW6]; exact boxes1 _ _ _
    rw [hW6]
    have c13 : W6.cell? ⟨W5.heap.size, 0, none⟩ = some (.int .i64 0) := hbx.cell 0 _ rfl
    have f13 : W6.frozen? ⟨W5.heap.size, 0, none⟩ = false := hbx.free 0 _ rfl
    have hz6 : W6.heap.size = W5.heap.size + 1 := hbx.size
    have hb6 := hbx.below
    have hs5 := H5.out.s
    have hT6 := HT5.out.below hb6
    have hp6 := (hb6.cell (World.block_lt_of_cell? W5 _ HP5.out)).trans HP5.out
    have hq6 := (hb6.cell (World.block_lt_of_cell? W5 _ HQ5.out)).trans HQ5.out
    have hseq := prefix1_seq 8 W5.heap.size g wd ky n bs k ⟨W1.heap.size, 0, none⟩ ⟨W1.heap.size + 1, 0, none⟩ W6 ok hk hT6 hp6 hq6 (World.block_lt_of_cell? W5 _ HT5.out.c0) (World.block_lt_of_cell? W5 _ HP5.out) (World.block_lt_of_cell? W5 _ HQ5.out) (by omega)
    have HZ6 := Lib.hid hz6
    clear hW6 hbx hT6 hp6 hq6 hz6
    refine wpIn_rangeFunc_ownG (α := { i : Nat // i < n }) (fun T x => (((T.setIfInBounds 55 (.int .i64 (x.val : Int))).setIfInBounds 56 (.string (rowB bs wd x.val))).setIfInBounds 14 (.int .i64 (x.val : Int))).setIfInBounds 15 (.string (rowB bs wd x.val))) rfl (by omega) (gf := 36) rfl trivial (enters_of Tryd.func36 (by kernel_rfl) rfl) hseq belowK_t (belowK_b (by have := HZ6.out; omega)) (Below.refl _ _) (fun _ => rfl)
      (fun pre W => Below W5.heap.size W5 W ∧ ∃ m : Nat, W.cell? ⟨W5.heap.size, 0, none⟩ = some (.int .i64 m) ∧ W.frozen? ⟨W5.heap.size, 0, none⟩ = false ∧ m ≤ n ∧ begL bs wd ky k m = pre.map Subtype.val)
      (fun c pre W => ¬ (pre.map Subtype.val <+: begL bs wd ky k n))
      ?own ?ownx ⟨hb6, 0, c13, f13, by omega, rfl⟩ ?assign ?body ?done ?stop
    case own =>
      rintro s W W' row ⟨h1, m, h2, h3, h4, h5⟩ hg hr
      exact ⟨h1.grown hg h1.size (fun r e => by have := (hr r e).1; have := HZ6.out; omega), m, cell_kept h2 hg (fun r e => (hr r e).2), (frozen_kept h2 hg (fun r e => (hr r e).2)).trans h3, h4, h5⟩
    case ownx => exact fun c s W W' row h hg hr => h
    case assign =>
      intro l x W K hK
      unfold encRow
      have HK := Lib.hid hK
      clear hK
      gi_wp2_with (rw [Oper.semAt_eq _ _ _ (fun c h => by cases h)]; go_simp; try go_bits)
      exact HK.out
    case body =>
      rintro l pre x W ⟨hB, m, c1, f1, hm, hbeg⟩ hlen
      have HBW := Lib.hid hB
      have HBG := Lib.hid hbeg
      clear hB hbeg c13 f13 hb6 hseq
      gi_wp2_with (rw [Oper.semAt_eq _ _ _ (fun c h => by cases h)]; go_simp; try go_bits)
      gi_loopg [] (n + 1 - m) (fun gk wr => ∃ m2 : Nat, gk = n + 1 - m2 ∧ m2 ≤ n ∧ wr.cell? ⟨W5.heap.size, 0, none⟩ = some (.int .i64 m2) ∧ wr.frozen? ⟨W5.heap.size, 0, none⟩ = false ∧ Hid (begL bs wd ky k m2 = pre.map Subtype.val) ∧ Hid (KeepsOthers W wr) ∧ Hid (Below W5.heap.size W wr))
      case atStart => exact ⟨m, rfl, hm, c1, f1, HBG, Lib.hid (KeepsOthers.refl _), Lib.hid (Below.refl _ _)⟩
      case round =>
        obtain ⟨m2, rfl, hm2, cc, ff, HBG2, HKO, HBR⟩ := hrel
        clear c1 f1
        have hB2 := HBW.out.trans HBR.out
        have hst2 := H5.out.next hB2 hs5 (Nat.le_refl _)
        have HS2 := Lib.hid (strsAt_keeps HS5.out hB2 (Nat.le_refl _))
        have H2 := Lib.hid hst2
        obtain ⟨-, -, d0, d1, d2, d3, e3⟩ := hst2
        clear hB2
        by_cases hlt : m2 < n
        · have hml : m2 < ys.length := by have := HN.out; omega
          obtain ⟨b1, off1, hab, hcm⟩ := HS2.out m2 hml
          have hcc := HRW.out m2 hlt
          rw [List.getElem?_eq_getElem hml] at hcc
          rw [Option.some.inj hcc] at hcm
          clear hcc
          have hfit := row_fits ok hlt
          have hzk : (ky : Int) ≤ ((rowB bs wd m2).size : Int) := by have := ok.hk2; simp [rowB]; omega
          have hks : ((rowB bs wd m2).extract 0 ky).size ≤ maxLen := by have := ok.hs; simp [rowB]; unfold maxLen; omega
          have HNX := Lib.hid (fun x h => beg_next (x := x) HBG2.out hm2 h)
          have hlt2 : (m2 : Int) < (n : Int) := by omega
          have hBX := fun W' => begins_any ((rowB bs wd m2).extract 0 ky) k W' hks hk
          rw [show begB ((rowB bs wd m2).extract 0 ky) k = begB (keyB bs wd ky m2) k from rfl] at hBX
          have HBX := Lib.hid hBX
          have HNO := Lib.hid (fun h => begL_no (bytes := bs) (wd := wd) (key := ky) (k := k) (n := m2) h)
          have HYES := Lib.hid (fun h => begL_yes (bytes := bs) (wd := wd) (key := ky) (k := k) (n := m2) h)
          clear hks hml hBX
          cases hab
          cases hbg : begB (keyB bs wd ky m2) k with
          | false =>
            rw [hbg] at HBX
            have HNX2 := Lib.hid (HNO.out hbg)
            clear hbg HNX HNO HYES
            gi_wp2_with fail
            refine wpIn_round_quiet_lit (by kernel_rfl) (by kernel_rfl) (by kernel_rfl) ?_
            repeat (gi_big_quiet_step ((gi_at_call 35; exact callsIn_wide.2 (Calls.quiet_of (HBX.out _)))))
            refine wpQuietIn_nil ?_
            intro _ hw'
            obtain ⟨nq, rfl⟩ := hw'
            gi_wp2_with (rw [Oper.semAt_eq _ _ _ (fun c h => by cases h)]; go_simp; try go_bits)
            gi_roundg (n + 1 - (m2 + 1))
            case measure => omega
            case rel => exact ⟨m2 + 1, rfl, by omega, World.cell?_setCell_same' _ _ _ (by rw [World.cell?_drewN, cc]; rfl), by rw [free_set]; exact ff, Lib.hid (HNX2.out.trans HBG2.out), Lib.hid ((HKO.out.trans (keepsOthers_drewN _ _)).trans (KeepsOthers.setCell _ _ _)), Lib.hid ((below_drewN HBR.out _).setCell (p := ⟨W5.heap.size, 0, none⟩) (Nat.le_refl _) _)⟩
          | true =>
            rw [hbg] at HBX
            have HY2 := Lib.hid (HYES.out hbg)
            have HNX2 := Lib.hid (fun x h => HNX.out x h (fun _ => hbg))
            clear hbg HNX HNO HYES
            have HEND := Lib.hid (fun (nq : Nat) (v : Value) => And.intro ((HKO.out.trans (keepsOthers_drewN wr nq)).trans (KeepsOthers.setCell (wr.drewN nq) ⟨W5.heap.size, 0, none⟩ v)) (And.intro ((below_drewN HBR.out nq).setCell (p := ⟨W5.heap.size, 0, none⟩) (Nat.le_refl _) v) (And.intro (HBW.out.trans ((below_drewN HBR.out nq).setCell (p := ⟨W5.heap.size, 0, none⟩) (Nat.le_refl _) v)) (World.cell?_setCell_same' (wr.drewN nq) ⟨W5.heap.size, 0, none⟩ v (by rw [World.cell?_drewN, cc]; rfl)))))
            have HKOX := Lib.hid (fun (nq : Nat) (a : Addr) (v : Value) => (HKO.out.trans (keepsOthers_drewN wr nq)).trans (KeepsOthers.setCell (wr.drewN nq) a v))
            by_cases hx : x.val = m2
            · have hx1 : ((x.val : Int) != (m2 : Int)) = false := by rw [hx]; simp
              have hx2 : ((x.val : Int) == (m2 : Int)) = true := by rw [hx]; simp
              have hr1 : ((rowB bs wd x.val).toList != (rowB bs wd m2).toList) = false := by rw [hx]; simp
              have hr2 : ((rowB bs wd x.val).toList == (rowB bs wd m2).toList) = true := by rw [hx]; simp
              have HX := Lib.hid hx
              clear hx
              gi_wp2_with fail
              refine wpIn_round_quiet_lit (by kernel_rfl) (by kernel_rfl) (by kernel_rfl) ?_
              repeat (gi_big_quiet_step ((gi_at_call 35; exact callsIn_wide.2 (Calls.quiet_of (HBX.out _)))))
              refine wpQuietIn_nil ?_
              intro _ hw'
              obtain ⟨nq, rfl⟩ := hw'
              gi_wp2_with (rw [Oper.semAt_eq _ _ _ (fun c h => by cases h)]; go_simp; try go_bits)
              have h4 := HEND.out nq (.int .i64 ((m2 + 1 : Nat) : Int))
              rw [Int.natCast_add] at h4
              refine ⟨h4.1, h4.2.1, h4.2.2.1, m2 + 1, h4.2.2.2, by rw [free_set]; exact ff, by omega, ?_⟩
              rw [HY2.out, HBG2.out, List.map_append, ← HX.out]
              rfl
            · have hx1 : ((x.val : Int) != (m2 : Int)) = true := by rw [bne_iff_ne]; omega
              have hx2 : ((x.val : Int) == (m2 : Int)) = false := by rw [beq_eq_false_iff_ne]; omega
              have HX := Lib.hid (show ¬ ((pre ++ [x]).map Subtype.val <+: begL bs wd ky k n) by
                intro h
                rw [List.map_append] at h
                exact hx (HNX2.out x.val h).2)
              clear hx
              gi_wp2_with fail
              refine wpIn_round_quiet_lit (by kernel_rfl) (by kernel_rfl) (by kernel_rfl) ?_
              repeat (gi_big_quiet_step ((gi_at_call 35; exact callsIn_wide.2 (Calls.quiet_of (HBX.out _)))))
              refine wpQuietIn_nil ?_
              intro _ hw'
              obtain ⟨nq, rfl⟩ := hw'
              gi_wp2_with (rw [Oper.semAt_eq _ _ _ (fun c h => by cases h)]; go_simp; try go_bits)
              exact ⟨HKOX.out nq _ _, HX.out⟩
        · have HNX := Lib.hid (fun x h => beg_next (x := x) HBG2.out hm2 h (fun h => absurd h hlt))
          have HX := Lib.hid (show ¬ ((pre ++ [x]).map Subtype.val <+: begL bs wd ky k n) by
            intro h
            rw [List.map_append] at h
            exact hlt (HNX.out x.val h).1)
          have HKOX := Lib.hid (fun (nq : Nat) (a : Addr) (v : Value) => (HKO.out.trans (keepsOthers_drewN wr nq)).trans (KeepsOthers.setCell (wr.drewN nq) a v))
          have hge : (n : Int) ≤ (m2 : Int) := by omega
          have hnl : ¬ (m2 : Int) < (n : Int) := by omega
          gi_wp2_with fail
          refine wpIn_round_quiet_lit (by kernel_rfl) (by kernel_rfl) (by kernel_rfl) ?_
          repeat (gi_big_quiet_step (fail))
          refine wpQuietIn_nil ?_
          intro _ hw'
          obtain ⟨nq, rfl⟩ := hw'
          gi_wp2_with (rw [Oper.semAt_eq _ _ _ (fun c h => by cases h)]; go_simp; try go_bits)
          exact ⟨HKOX.out nq _ _, HX.out⟩
    case done =>
      rintro D xs W hD ⟨r, hr, hxs⟩ ⟨hB, m, c1, f1, hm, hbeg⟩ hK
      have HBW := Lib.hid hB
      have HBG := Lib.hid (hbeg.trans (hxs.trans (runL_beg HRB.out hr)))
      have HKD := Lib.hid hK
      have hDw : w.heap.size + 4 ≤ D := by have := HZ6.out; omega
      clear hB hbeg c13 f13 hb6 hseq hr hxs hK
      gi_wp2_with fail
      gi_loopg [] (n + 1 - m) (fun gk wr => ∃ m2 : Nat, gk = n + 1 - m2 ∧ m2 ≤ n ∧ wr.cell? ⟨W5.heap.size, 0, none⟩ = some (.int .i64 m2) ∧ wr.frozen? ⟨W5.heap.size, 0, none⟩ = false ∧ Hid (begL bs wd ky k m2 = begL bs wd ky k n) ∧ Hid (KeepsOthers W wr) ∧ Hid (Below W5.heap.size W wr))
      case atStart => exact ⟨m, rfl, hm, c1, f1, HBG, Lib.hid (KeepsOthers.refl _), Lib.hid (Below.refl _ _)⟩
      case round =>
        obtain ⟨m2, rfl, hm2, cc, ff, HBG2, HKO, HBR⟩ := hrel
        clear c1 f1
        have hB2 := HBW.out.trans HBR.out
        have hst2 := H5.out.next hB2 hs5 (Nat.le_refl _)
        have HS2 := Lib.hid (strsAt_keeps HS5.out hB2 (Nat.le_refl _))
        have H2 := Lib.hid hst2
        obtain ⟨-, -, d0, d1, d2, d3, e3⟩ := hst2
        clear hB2
        by_cases hlt : m2 < n
        · have hml : m2 < ys.length := by have := HN.out; omega
          obtain ⟨b1, off1, hab, hcm⟩ := HS2.out m2 hml
          have hcc := HRW.out m2 hlt
          rw [List.getElem?_eq_getElem hml] at hcc
          rw [Option.some.inj hcc] at hcm
          clear hcc
          have hfit := row_fits ok hlt
          have hzk : (ky : Int) ≤ ((rowB bs wd m2).size : Int) := by have := ok.hk2; simp [rowB]; omega
          have hks : ((rowB bs wd m2).extract 0 ky).size ≤ maxLen := by have := ok.hs; simp [rowB]; unfold maxLen; omega
          have hlt2 : (m2 : Int) < (n : Int) := by omega
          have hBX := fun W' => begins_any ((rowB bs wd m2).extract 0 ky) k W' hks hk
          have hbg : begB ((rowB bs wd m2).extract 0 ky) k = false := beg_last HBG2.out hlt
          have HNX2 := Lib.hid (begL_no (bytes := bs) (wd := wd) (key := ky) (k := k) (n := m2) hbg)
          rw [hbg] at hBX
          have HBX := Lib.hid hBX
          clear hks hml hBX hbg
          cases hab
          gi_wp2_with fail
          refine wpIn_region_quiet_lit rfl (by kernel_rfl) (by kernel_rfl) ?_
          repeat (gi_big_quiet_step ((gi_at_call 35; exact callsIn_wide.2 (Calls.quiet_of (HBX.out _)))))
          refine wpQuietIn_nil ?_
          intro _ hw'
          obtain ⟨nq, rfl⟩ := hw'
          gi_wp2_with fail
          gi_roundg (n + 1 - (m2 + 1))
          case measure => omega
          case rel => exact ⟨m2 + 1, rfl, by omega, World.cell?_setCell_same' _ _ _ (by rw [World.cell?_drewN, cc]; rfl), by rw [free_set]; exact ff, Lib.hid (HNX2.out.trans HBG2.out), Lib.hid ((HKO.out.trans (keepsOthers_drewN _ _)).trans (KeepsOthers.setCell _ _ _)), Lib.hid ((below_drewN HBR.out _).setCell (p := ⟨W5.heap.size, 0, none⟩) (Nat.le_refl _) _)⟩
        · have hmn : ((m2 : Int) == (n : Int)) = true := by rw [beq_iff_eq]; omega
          have hnl : ¬ (m2 : Int) < (n : Int) := by omega
          gi_wp2_with fail
          refine wpIn_region_quiet_lit rfl (by kernel_rfl) (by kernel_rfl) ?_
          repeat (gi_big_quiet_step (fail))
          refine wpQuietIn_nil ?_
          intro _ hw'
          obtain ⟨nq, rfl⟩ := hw'
          gi_wp2_with fail
          have hset : ((wr.drewN nq).setCell ⟨w.heap.size + 1 + 1 + 1, 0, none⟩ (.bool true)).cell? ⟨w.heap.size + 1 + 1 + 1, 0, none⟩ = some (.bool true) := World.cell?_setCell_same' (wr.drewN nq) ⟨w.heap.size + 1 + 1 + 1, 0, none⟩ (.bool true) (by rw [World.cell?_drewN, d3]; rfl)
          have hK2 := ((HKO.out.trans (keepsOthers_drewN wr nq)).trans (KeepsOthers.setCell (wr.drewN nq) ⟨w.heap.size + 1 + 1 + 1, 0, none⟩ (.bool true))).same D _ HKD.out rfl
          have hbl := (below_drewN H2.out.b nq).setCell (p := ⟨w.heap.size + 1 + 1 + 1, 0, none⟩) (by show w.heap.size ≤ w.heap.size + 1 + 1 + 1; omega) (.bool true)
          have hv := cell_putObj hK2 hset
          refine leave_mark (v := .bool true) hK2 ?_ ⟨rfl, below_putObj hbl hbl.size (by omega) _⟩
          simp [results, Tryd.f15, go_sem, hv]
    case stop =>
      rintro D c pre W hD ⟨r, hr, hne, hpre⟩ hix hK
      rw [runL_beg HRB.out hr] at hpre
      exact absurd hpre hix

end Go.Proofs.YtfeikolfdggnfaaDoor
