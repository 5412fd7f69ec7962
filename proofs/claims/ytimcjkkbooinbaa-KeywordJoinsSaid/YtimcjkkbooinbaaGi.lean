/- Read, walked. -/
import Derived.Test.YtimcjkkbooinbaaGh
namespace Go.Proofs.Ytimcjkkbooinbaa
open Go.RowKit Go.Shelf

theorem RdSt.drewN {w W4 wr : World} {vA v : Value} {done : List XE} (h : RdSt w W4 wr vA v done) (n : Nat) : RdSt w W4 (wr.drewN n) vA v done :=
  ⟨below_drewN h.b n, h.s, h.s4, h.r0, h.r1, h.fr, h.g0, h.g1, h.fg, h.own, h.keep⟩

theorem RdSt.alloc {w W4 wr : World} {vA v : Value} {done : List XE} (h : RdSt w W4 wr vA v done) (o : Obj) : RdSt w W4 (wr.alloc o) vA v done := by
  have hb : Below wr.heap.size wr (wr.alloc o) := (Below.refl _ _).alloc (Nat.le_refl _) _
  have hs : w.heap.size + 2 ≤ wr.heap.size := Nat.le_trans h.s4 h.s
  have hc : ∀ j i, j < 2 → (wr.alloc o).cell? ⟨w.heap.size + j, i, none⟩ = wr.cell? ⟨w.heap.size + j, i, none⟩ := fun j i hj => hb.cell (by show w.heap.size + j < _; omega)
  have hf : ∀ j i, j < 2 → (wr.alloc o).frozen? ⟨w.heap.size + j, i, none⟩ = wr.frozen? ⟨w.heap.size + j, i, none⟩ := fun j i hj => hb.frozen (by show w.heap.size + j < _; omega)
  exact ⟨h.b.trans (hb.mono h.b.size), Nat.le_trans h.s hb.size, h.s4, (hc 0 0 (by omega)).trans h.r0, (hc 0 1 (by omega)).trans h.r1, fun i => (hf 0 i (by omega)).trans (h.fr i), (hc 1 0 (by omega)).trans h.g0, (hc 1 1 (by omega)).trans h.g1, fun i => (hf 1 i (by omega)).trans (h.fg i), h.own.alloc o, h.keep.trans (KeepS.below (hb.mono h.s))⟩

theorem RdSt.later {w W4 wr w2 : World} {vA v : Value} {done : List XE} (h : RdSt w W4 wr vA v done) (hb : Below W4.heap.size wr w2) (ho : OwnX w2 W4.heap.size v done) : RdSt w W4 w2 vA v done := by
  have hs4 := h.s4
  have hc : ∀ j i, j < 2 → w2.cell? ⟨w.heap.size + j, i, none⟩ = wr.cell? ⟨w.heap.size + j, i, none⟩ := fun j i hj => hb.cell (by show w.heap.size + j < _; omega)
  have hf : ∀ j i, j < 2 → w2.frozen? ⟨w.heap.size + j, i, none⟩ = wr.frozen? ⟨w.heap.size + j, i, none⟩ := fun j i hj => hb.frozen (by show w.heap.size + j < _; omega)
  exact ⟨h.b.trans (hb.mono (by omega)), Nat.le_trans h.s hb.size, h.s4, (hc 0 0 (by omega)).trans h.r0, (hc 0 1 (by omega)).trans h.r1, fun i => (hf 0 i (by omega)).trans (h.fr i), (hc 1 0 (by omega)).trans h.g0, (hc 1 1 (by omega)).trans h.g1, fun i => (hf 1 i (by omega)).trans (h.fg i), ho, h.keep.trans (KeepS.below hb)⟩

theorem cell_new_at {W : World} {cs : Array Value} {t : TypeId} {g : Nat} (hg : g = W.heap.size) (i : Nat) {v : Value} (h : cs[i]? = some v) : (W.alloc (.cells cs t)).cell? ⟨g, i, none⟩ = some v := by
  subst hg; rw [World.cell?_alloc_new]; exact h

/-- A store into a block that the row does not lie in. -/
theorem OwnX.set {w : World} {base : Nat} {v : Value} {xs : List XE} (h : OwnX w base v xs) {p : Addr} (hp : v.ownBlock ≠ some p.block) (u : Value) : OwnX (w.setCell p u) base v xs :=
  World.ownsRow.kept (row := some p.block) h ⟨by simp [World.setCell], by simp [World.setCell], by simp [World.setCell], by simp [World.setCell], fun i _ hi => Below.heap_setCell w p u i (fun e => hi (by rw [e]))⟩ (.inr hp)

set_option maxHeartbeats 2000000 in
set_option maxRecDepth 100000 in
theorem read_any (a : Option Addr) (cap : Nat) (l : List ByteArray) (w : World) (hl : l.length ≤ 10000) (hz : ∀ x ∈ l, x.size ≤ 100000) (h : StrsAt w a l) :
    Calls Try.prog 13 #[.slice a l.length cap] w fun e w' => ∃ v xs, e = .returned v ∧ KwAt w' v (readA l) xs ∧ xs.map XE.val = readE l ∧ Below w.heap.size w w' := by
  have HS := Lib.hid h
  have HZ := Lib.hid hz
  clear h hz
  go_enter Try.func13, Try.ntmps13
  go_wp2_with fail
  obtain ⟨W2, hW2⟩ : ∃ W2, (w.alloc (.cells #[.slice none 0 0, .slice none 0 0] 25)).alloc (.cells #[.slice none 0 0, .slice none 0 0] 25) = W2 := ⟨_, rfl⟩
  have hb2 : Below w.heap.size w W2 := by rw [← hW2]; exact ((Below.refl _ _).alloc (Nat.le_refl _) _).alloc (by simp) _
  have hz2 : w.heap.size + 2 ≤ W2.heap.size := by rw [← hW2]; simp
  have r0 : W2.cell? ⟨w.heap.size, 0, none⟩ = some (.slice none 0 0) := by rw [← hW2, World.cell?_alloc_past _ _ _ (by simp)]; exact World.cell?_alloc_new w _ _ 0
  have r1 : W2.cell? ⟨w.heap.size, 1, none⟩ = some (.slice none 0 0) := by rw [← hW2, World.cell?_alloc_past _ _ _ (by simp)]; exact World.cell?_alloc_new w _ _ 1
  have fr : ∀ i, W2.frozen? ⟨w.heap.size, i, none⟩ = false := by intro i; rw [← hW2]; simp
  have g0 : W2.cell? ⟨w.heap.size + 1, 0, none⟩ = some (.slice none 0 0) := by rw [← hW2]; simp
  have g1 : W2.cell? ⟨w.heap.size + 1, 1, none⟩ = some (.slice none 0 0) := by rw [← hW2]; simp
  have fg : ∀ i, W2.frozen? ⟨w.heap.size + 1, i, none⟩ = false := by intro i; rw [← hW2]; simp
  rw [hW2]
  clear hW2
  refine (small_any a cap l W2 (by omega) (fun x hx => Nat.le_trans (HZ.out x hx) (by omega)) (HS.out.below hb2)).mono ?_
  rintro e W3 ⟨v3, rfl, hown3, hb3⟩
  obtain ⟨ls, hls⟩ : ∃ ls, l.map lowB = ls := ⟨_, rfl⟩
  rw [hls] at hown3
  have hlen : ls.length ≤ 10000 := by rw [← hls]; simpa using hl
  have hcap3 := hown3.cap
  obtain ⟨a3, cap3, rfl, hs3⟩ := hown3.strs
  have hcap3' := hcap3 _ _ _ rfl
  have HUP := Lib.hid (upTo_any a3 cap3 ls W3 (by omega) hcap3' hs3)
  have HLS := Lib.hid hls
  have HS3 := Lib.hid hs3
  have hc3 : ∀ {x i : Nat} {v : Value}, W2.cell? ⟨x, i, none⟩ = some v → W3.cell? ⟨x, i, none⟩ = some v := fun h => (hb3.cell (World.block_lt_of_cell? W2 _ h)).trans h
  have hf3 : ∀ x i, x < W2.heap.size → W3.frozen? ⟨x, i, none⟩ = W2.frozen? ⟨x, i, none⟩ := fun x i hx => hb3.frozen hx
  replace r0 := hc3 r0
  replace r1 := hc3 r1
  replace g0 := hc3 g0
  replace g1 := hc3 g1
  replace fr : ∀ i, W3.frozen? ⟨w.heap.size, i, none⟩ = false := fun i => (hf3 _ i (by omega)).trans (fr i)
  replace fg : ∀ i, W3.frozen? ⟨w.heap.size + 1, i, none⟩ = false := fun i => (hf3 _ i (by omega)).trans (fg i)
  have HB3 := Lib.hid (hb2.trans (hb3.mono hb2.size))
  have hz3 := Nat.le_trans hz2 hb3.size
  clear hown3 hcap3 hs3 hls hc3 hf3 hb2 hb3 hz2
  go_wp2_with fail
  refine HUP.out.mono ?_
  rintro e W4 ⟨aL0, cL0, rfl, hA, hD, hcL0, q, rfl⟩
  clear HUP
  have HA := Lib.hid (hA _ HS3.out)
  have HD := Lib.hid (hD _ HS3.out)
  have hall : (ls.takeWhile noKey).length + (ls.dropWhile noKey).length = ls.length := by rw [← List.length_append, List.takeWhile_append_dropWhile]
  obtain ⟨At, hAt⟩ : ∃ At, ls.takeWhile noKey = At := ⟨_, rfl⟩
  obtain ⟨Dr, hDr⟩ : ∃ Dr, ls.dropWhile noKey = Dr := ⟨_, rfl⟩
  rw [hAt] at HA hall ⊢
  rw [hDr] at HD hall hcL0 ⊢
  have HAt := Lib.hid hAt
  have HDr := Lib.hid hDr
  have fg0 := fg 0
  have hst : RdSt w ((W3.drewN q).setCell ⟨w.heap.size + 1, 0, none⟩ (.slice a3 At.length At.length)) ((W3.drewN q).setCell ⟨w.heap.size + 1, 0, none⟩ (.slice a3 At.length At.length)) (.slice a3 At.length At.length) (.slice none 0 0) [] := by
    refine ⟨(below_drewN HB3.out q).setCell (p := ⟨w.heap.size + 1, 0, none⟩) (by simp) _, by simp, by simp; omega, ?_, ?_, ?_, ?_, ?_, ?_, World.ownsRow_nil _ _ _ _, KeepS.refl _ _⟩
    · rw [World.cell?_setCell_other (h := by simp)]; exact r0
    · rw [World.cell?_setCell_other (h := by simp)]; exact r1
    · intro i; rw [World.frozen?_setCell]; exact fr i
    · exact World.cell?_setCell_same' _ _ _ (by rw [World.cell?_drewN, g0]; rfl)
    · rw [World.cell?_setCell_other (h := by simp)]; exact g1
    · intro i; rw [World.frozen?_setCell]; exact fg i
  have hk4 : KeepS W3.heap.size W3 ((W3.drewN q).setCell ⟨w.heap.size + 1, 0, none⟩ (.slice a3 At.length At.length)) := fun b off s hb hc => KeepS.set (B := W3.heap.size) (w := W3.drewN q) (p := ⟨w.heap.size + 1, 0, none⟩) (a := none) (n := 0) (c := 0) (by rw [World.cell?_drewN]; exact g0) _ b off s hb hc
  have HST := Lib.hid hst
  have HA4 := Lib.hid (HA.out.keep hk4)
  have HD4 := Lib.hid (HD.out.keep hk4)
  clear hst hk4 hA hD hAt hDr r0 r1 fr g1 fg HS3 HA HD
  go_wp2_with fail
  generalize (W3.drewN q).setCell ⟨w.heap.size + 1, 0, none⟩ (.slice a3 At.length At.length) = W4 at HST HA4 HD4 ⊢
  clear g0 fg0
  have hDL : Dr.length ≤ 10000 := by omega
  have HC0 := Lib.hid hcL0
  go_loopg [4] Dr.length (fun gk v4 wr => ∃ (aL : Option Addr) (cL : Nat) (left : List ByteArray) (vK : Value) (done : List XE), gk = left.length ∧ v4 = .slice aL left.length cL ∧ left.length ≤ cL ∧ done.length + left.length ≤ 10000 ∧ Hid (StrsAt W4 aL left) ∧ Hid (RdSt w W4 wr (.slice a3 At.length At.length) vK done) ∧ Hid (∀ x ∈ done, x.ok W4) ∧ Hid (done.map XE.val ++ exts left = exts Dr))
  case atStart => exact ⟨aL0, cL0, Dr, .slice none 0 0, [], rfl, rfl, HC0.out, by simpa using hDL, HD4, HST, Lib.hid (by simp), rfl⟩
  case round =>
    obtain ⟨aL, cL, left, vK, done, rfl, rfl, hcL, hdl, HL, HG, HOK, HEX⟩ := hrel
    have hsz : w.heap.size + 2 ≤ wr.heap.size := Nat.le_trans HG.out.s4 HG.out.s
    cases left with
    | nil =>
      obtain ⟨aK, cK, hvK, hcK, hXs⟩ := HG.out.own.xs
      subst hvK
      have r0 := HG.out.r0
      have r1 := HG.out.r1
      have g0 := HG.out.g0
      have g1 := HG.out.g1
      have fr0 := HG.out.fr 0
      have fr1 := HG.out.fr 1
      have HXs := Lib.hid hXs
      have HCK := Lib.hid hcK
      clear hXs hcK
      have HK4 := Lib.hid (show KeepS W4.heap.size W4 ((wr.setCell ⟨w.heap.size, 0, none⟩ (.slice a3 At.length At.length)).setCell ⟨w.heap.size, 1, none⟩ (.slice aK done.length cK)) from
        (HG.out.keep.trans (KeepS.set r0 _)).trans (KeepS.set (by rw [World.cell?_setCell_other (h := by simp)]; exact r1) _))
      have HEND := Lib.hid ((HG.out.b.setCell (p := ⟨w.heap.size, 0, none⟩) (Nat.le_refl _) (.slice a3 At.length At.length)).setCell (p := ⟨w.heap.size, 1, none⟩) (Nat.le_refl _) (.slice aK done.length cK))
      have HXE := Lib.hid (show XsAt ((wr.setCell ⟨w.heap.size, 0, none⟩ (.slice a3 At.length At.length)).setCell ⟨w.heap.size, 1, none⟩ (.slice aK done.length cK)) aK done by
        have ho := ownsRow_setCell_below (ownsRow_setCell_below HG.out.own (a := ⟨w.heap.size, 0, none⟩) (by have := HG.out.s4; show w.heap.size < _; omega) (.slice a3 At.length At.length)) (a := ⟨w.heap.size, 1, none⟩) (by have := HG.out.s4; show w.heap.size < _; omega) (.slice aK done.length cK)
        obtain ⟨a', c', e, _, hx⟩ := OwnX.xs ho
        cases e
        exact hx)
      have HRA := Lib.hid (show readA l = At by unfold readA; rw [HLS.out, HAt.out])
      have HRE := Lib.hid (show done.map XE.val = readE l by unfold readE; rw [HLS.out, HDr.out, ← HEX.out]; exact (List.append_nil _).symm)
      go_wp2_with fail
      refine bodyPost_ret (v := .agg #[.slice a3 At.length At.length, .slice aK done.length cK]) ?_ rfl ⟨_, done, rfl, ?_, HRE.out, HEND.out⟩
      · simp [results, Try.f13, go_sem, r0, r1]
      · rw [HRA.out]
        exact ⟨a3, _, aK, cK, rfl, Nat.le_refl _, HCK.out, HA4.out.keep HK4.out, HXE.out, fun x hx => ⟨(HOK.out x hx).1, (HOK.out x hx).2.keep HK4.out⟩⟩
    | cons k rest =>
      obtain ⟨aK, cK, hvK, hcK, -⟩ := HG.out.own.xs
      subst hvK
      clear hcK
      obtain ⟨b, off, hab, hck⟩ := (HL.out.keep HG.out.keep) 0 (by simp)
      simp only [List.getElem_cons_zero, Nat.add_zero] at hck
      have g1 := HG.out.g1
      have fg1 := HG.out.fg 1
      rw [List.length_cons] at hcL hdl
      have hpos : 0 < rest.length + 1 := by omega
      have HEX2 := Lib.hid (HEX.out.symm.trans (congrArg (done.map XE.val ++ ·) (exts_cons k rest)))
      have HDL2 := Lib.hid (drop_len rest)
      have HRS : Hid (∀ a2, (if cL = 1 then aL else aL.map (·.add 1)) = a2 → StrsAt W4 a2 rest) := Lib.hid (fun a2 h2 => by have := HL.out.skip (k := 1) hcL h2; simpa using this)
      rcases Nat.lt_or_ge 1 cL with hc1 | hc1
      case' inl =>
        have hne : ¬ cL = 1 := by omega
        have hR := HRS.out _ (if_neg hne)
        rw [hab, Option.map_some, add_plain] at hR
        have HR := Lib.hid hR
        have HCR := Lib.hid (show rest.length ≤ cL - 1 by omega)
        clear hR
        go_wp2_with fail
        generalize (some ⟨b, off + 1, none⟩ : Option Addr) = aR at HR ⊢
      case' inr =>
        obtain rfl : cL = 1 := by omega
        obtain rfl : rest = [] := List.length_eq_zero_iff.1 (by omega)
        have HR : Hid (StrsAt W4 (some ⟨b, off, none⟩) []) := Lib.hid (fun i hi => absurd hi (by simp))
        have HCR := Lib.hid (show ([] : List ByteArray).length ≤ 0 by simp)
        go_wp2_with fail
        generalize (some ⟨b, off, none⟩ : Option Addr) = aR at HR ⊢
      all_goals
        have hG1 := HG.out.alloc (.cells #[.string k, .slice none 0 0] 37)
        have e0 : (wr.alloc (.cells #[.string k, .slice none 0 0] 37)).cell? ⟨wr.heap.size, 0, none⟩ = some (.string k) := World.cell?_alloc_new _ _ _ 0
        have e1 : (wr.alloc (.cells #[.string k, .slice none 0 0] 37)).cell? ⟨wr.heap.size, 1, none⟩ = some (.slice none 0 0) := World.cell?_alloc_new _ _ _ 1
        have ef : (wr.alloc (.cells #[.string k, .slice none 0 0] 37)).frozen? ⟨wr.heap.size, 1, none⟩ = false := by simp
        have hlw : ∀ g, (Value.slice aK done.length cK).ownBlock = some g → g < wr.heap.size := fun g hg => (World.ownsRow.lt HG.out.own g hg).2
        have HLW := Lib.hid hlw
        have hWs := HG.out.s
        generalize wr.alloc (.cells #[.string k, .slice none 0 0] 37) = wE at hG1 e0 e1 ef ⊢
        have HKE := Lib.hid (HR.out.keep hG1.keep)
        have HGE := Lib.hid hG1
        clear hG1 hck g1 fg1 hlw
        refine (upTo_any _ _ _ wE (by first | omega | simp) HCR.out HKE.out).mono ?_
        rintro e w2 ⟨a2, c2, rfl, hA2, hD2, hc2, q2, rfl⟩
        have HS2 := Lib.hid (hA2 _ HR.out)
        have HD2 := Lib.hid (hD2 _ HR.out)
        clear hA2 hD2
        first
          | generalize List.takeWhile noKey rest = T at *
          | generalize List.takeWhile noKey [] = T at *
        first
          | generalize List.dropWhile noKey rest = D at *
          | generalize List.dropWhile noKey [] = D at *
        have HG3 := Lib.hid (HGE.out.drewN q2)
        have E0 := Lib.hid (show (wE.drewN q2).cell? ⟨wr.heap.size, 0, none⟩ = some (.string k) from e0)
        have hE1 : (wE.drewN q2).cell? ⟨wr.heap.size, 1, none⟩ = some (.slice none 0 0) := e1
        have hEf : (wE.drewN q2).frozen? ⟨wr.heap.size, 1, none⟩ = false := ef
        clear e0 e1 ef HKE HGE
        generalize wE.drewN q2 = w3 at HG3 E0 hE1 hEf ⊢
        have hE0 := E0.out
        have HO3 := Lib.hid (fun u => OwnX.set HG3.out.own (p := ⟨wr.heap.size, 1, none⟩) (fun h => by have := HLW.out _ h; exact absurd this (Nat.lt_irrefl _)) u)
        have g31 := HG3.out.g1
        have f31 := HG3.out.fg 1
        have HC2 := Lib.hid hc2
        have HDONE := Lib.hid hdl
        have HB5 := Lib.hid (fun (u : Value) (o : Obj) (w5 : World) (hg : ((w3.setCell ⟨wr.heap.size, 1, none⟩ u).alloc o).grownBy w5 (Value.slice aK done.length cK).ownBlock) =>
          (((Below.refl W4.heap.size w3).setCell (p := ⟨wr.heap.size, 1, none⟩) hWs u).alloc (by simpa using HG3.out.s) o).grown hg (by have := HG3.out.s; simp; omega) HG3.out.own.ge)
        have hdl2 : done.length + 1 ≤ 1000000 := by have := HDONE.out; omega
        have hlt3 : w.heap.size + 1 < w3.heap.size := by have := HG3.out.s; have := HG3.out.s4; omega
        clear hc2 hcL hdl
        go_wp2_with (at_builtin; refine append_X rfl _ _ rfl W4.heap.size _ done rfl ((HO3.out _).alloc _) w3.heap.size 1 ⟨k, aR, T.length, T⟩ rfl (cell_new_at (by simp) 0 rfl) (cell_new_at (by simp) 1 rfl) hdl2 (by have := HG3.out.s; simp; omega) ?_; intro v5 w5 hown5 hgrow; have hb5 := HB5.out _ _ _ hgrow; have HO5 := Lib.hid hown5; obtain ⟨aK5, cK5, hv5, hcK5, -⟩ := hown5.xs; subst hv5; have g51 := (hb5.cell (p := ⟨w.heap.size + 1, 1, none⟩) (by have := HG3.out.s4; show w.heap.size + 1 < _; omega)).trans g31; have f51 := (hb5.frozen (p := ⟨w.heap.size + 1, 1, none⟩) (by have := HG3.out.s4; show w.heap.size + 1 < _; omega)).trans f31)
        have hfin := HG3.out.next hb5 HO5.out rfl
        have hlen5 : (done ++ [⟨k, aR, T.length, T⟩] : List XE).length = done.length + 1 := by simp
        rw [hlen5] at hfin
        have HFIN := Lib.hid hfin
        clear hb5 hfin hgrow hown5
        go_roundg D.length
        case measure => have := HDL2.out; have h0 : ([] : List ByteArray).length = 0 := rfl; simp only [List.length_cons]; omega
        case rel => exact ⟨a2, c2, D, _, done ++ [⟨k, aR, T.length, T⟩], rfl, rfl, HC2.out, by have := HDONE.out; have := HDL2.out; have h0 : ([] : List ByteArray).length = 0 := rfl; simp only [List.length_append, List.length_singleton]; omega, HD2, HFIN, Lib.hid (fun x hx => by
            rcases List.mem_append.1 hx with hx | hx
            · exact HOK.out x hx
            · obtain rfl := List.mem_singleton.1 hx; exact ⟨Nat.le_refl _, HS2.out⟩), Lib.hid (by rw [List.map_append, List.append_assoc]; exact HEX2.out.symm)⟩

end Go.Proofs.Ytimcjkkbooinbaa
