/- KeywordJoins, walked. -/
import Derived.Test.YtimcjkkbooinbaaGu
import Derived.Deep.DeepCutAuto
import Derived.Deep.RegionHeld3
namespace Go.Proofs.Ytimcjkkbooinbaa
open Go.RowKit Go.Shelf

theorem row_one (w : World) (base : Nat) (hb : base ≤ w.heap.size) (x : ByteArray) : RowS (w.alloc (.cells #[.string x] 9)) base (.slice (some ⟨w.heap.size, 0, none⟩) 1 1) [x] :=
  ⟨⟨by simp, .inr ⟨w.heap.size, 1, #[.string x], rfl, hb, heap_alloc_new w _, Nat.le_refl _, by decide, by simp, by simp⟩⟩, w.heap.size, 1, rfl⟩

theorem RowS.below {w w' : World} {base : Nat} {v : Value} {xs : List ByteArray} (h : RowS w base v xs) (hb : Below w.heap.size w w') : RowS w' base v xs := ⟨h.1.below hb, h.2⟩

/-- A new box for keywords, whole. -/
def BoxK (W : World) (g : Nat) : Prop := W.heap[g]? = some (.cells #[.slice none 0 0, .slice none 0 0] 25 (0, 0))
theorem BoxK.new (W : World) : BoxK (W.alloc (.cells #[.slice none 0 0, .slice none 0 0] 25)) W.heap.size := heap_alloc_new W _
theorem BoxK.lt {W : World} {g : Nat} (h : BoxK W g) : g < W.heap.size := (Array.getElem?_eq_some_iff.1 h).1
theorem BoxK.facts {W : World} {g : Nat} (h : BoxK W g) : W.cell? ⟨g, 0, none⟩ = some (.slice none 0 0) ∧ W.cell? ⟨g, 1, none⟩ = some (.slice none 0 0) ∧ W.frozen? ⟨g, 0, none⟩ = false ∧ W.frozen? ⟨g, 1, none⟩ = false := by
  unfold BoxK at h
  exact ⟨by simp [World.cell?, h], by simp [World.cell?, h], by simp [World.frozen?, h], by simp [World.frozen?, h]⟩
theorem BoxK.apart {W : World} {g base : Nat} {v : Value} {xs : List XE} (h : BoxK W g) (ho : OwnX W base v xs) : v.ownBlock ≠ some g := by
  intro e
  rcases ho.2 with ⟨rfl, _⟩ | ⟨b, cap, cur, rfl, _, hb, _⟩
  · cases e
  · cases e
    unfold BoxK at h
    rw [h] at hb
    cases hb
theorem BoxK.grown {W W' : World} {g base : Nat} {v : Value} {xs : List XE} (h : BoxK W g) (ho : OwnX W base v xs) (hg : W.grownBy W' v.ownBlock) : BoxK W' g := by
  unfold BoxK
  rw [hg.block g h.lt (fun e => h.apart ho e.symm)]
  exact h
theorem BoxK.alloc {W : World} {g : Nat} (h : BoxK W g) (o : Obj) : BoxK (W.alloc o) g := by
  have hl := h.lt
  unfold BoxK at *
  rw [heap_alloc_old W o hl]
  exact h

theorem join_new {B : Nat} {W12 W14 : World} {a14 : Option Addr} {n c14 : Nat} {L : List XE} {u0 : Value} (hB : B = W12.heap.size) (hn : n = L.length) (h : OwnX W14 B (.slice a14 n c14) L) (hc : L.length ≤ c14) (hb : Below W12.heap.size W12 W14) :
    (W14.alloc (.cells #[u0, .slice a14 n c14] 25)).cell? ⟨W14.heap.size, 0, none⟩ = some u0 ∧ (W14.alloc (.cells #[u0, .slice a14 n c14] 25)).cell? ⟨W14.heap.size, 1, none⟩ = some (.slice a14 n c14) ∧ XsAt (W14.alloc (.cells #[u0, .slice a14 n c14] 25)) a14 L ∧ n ≤ c14 ∧ Below W12.heap.size W12 (W14.alloc (.cells #[u0, .slice a14 n c14] 25)) := by
  refine ⟨World.cell?_alloc_new _ _ _ 0, World.cell?_alloc_new _ _ _ 1, ?_, hn ▸ hc, hb.alloc hb.size _⟩
  obtain ⟨a', c', e, _, hx⟩ := (h.alloc (.cells #[u0, .slice a14 n c14] 25)).xs
  cases e
  exact hx

theorem join_put {B g : Nat} {W12 W14 : World} {a14 : Option Addr} {n c14 : Nat} {L : List XE} {u0 : Value} (hB : B = W12.heap.size) (hn : n = L.length) (hk : BoxK W14 g) (hg : W12.heap.size ≤ g) (h : OwnX W14 B (.slice a14 n c14) L) (hc : L.length ≤ c14) (hb : Below W12.heap.size W12 W14) :
    ((W14.setCell ⟨g, 0, none⟩ u0).setCell ⟨g, 1, none⟩ (.slice a14 n c14)).cell? ⟨g, 0, none⟩ = some u0 ∧ ((W14.setCell ⟨g, 0, none⟩ u0).setCell ⟨g, 1, none⟩ (.slice a14 n c14)).cell? ⟨g, 1, none⟩ = some (.slice a14 n c14) ∧ XsAt ((W14.setCell ⟨g, 0, none⟩ u0).setCell ⟨g, 1, none⟩ (.slice a14 n c14)) a14 L ∧ n ≤ c14 ∧ Below W12.heap.size W12 ((W14.setCell ⟨g, 0, none⟩ u0).setCell ⟨g, 1, none⟩ (.slice a14 n c14)) := by
  obtain ⟨f0, f1, _, _⟩ := hk.facts
  refine ⟨?_, ?_, ?_, hn ▸ hc, (hb.setCell (p := ⟨g, 0, none⟩) hg _).setCell (p := ⟨g, 1, none⟩) hg _⟩
  · rw [World.cell?_setCell_other (h := by simp)]
    exact World.cell?_setCell_same' _ _ _ (by rw [f0]; rfl)
  · exact World.cell?_setCell_same' _ _ _ (by rw [World.cell?_setCell_other (h := by simp), f1]; rfl)
  · obtain ⟨a', c', e, _, hx⟩ := (OwnX.set (OwnX.set h (p := ⟨g, 0, none⟩) (hk.apart h) u0) (p := ⟨g, 1, none⟩) (hk.apart h) (.slice a14 n c14)).xs
    cases e
    exact hx

set_option maxHeartbeats 600000 in
set_option maxRecDepth 100000 in
theorem joins_any (a b : Option Addr) (cap capb : Nat) (l m : List ByteArray) (w : World) (hl : l.length ≤ 9223372036854775807) (hz : ∀ x ∈ l, x.size ≤ maxLen) (h : StrsAt w a l) (hlm : m.length ≤ 9223372036854775807) (hzm : ∀ x ∈ m, x.size ≤ maxLen) (hm : StrsAt w b m) :
    Calls Try.prog 6 #[.slice a l.length cap, .slice b m.length capb] w fun e w' => e = .returned (.bool true) ∧ Below w.heap.size w w' := by
  have HS := Lib.hid h
  have HZ := Lib.hid hz
  have HM := Lib.hid hm
  have HZM := Lib.hid hzm
  clear h hz hm hzm
  go_enter Try.func6, Try.ntmps6
  go_wp2_with fail
  refine (awake_any w).mono ?_
  rintro e W1 ⟨rfl, hb1⟩
  have HB1 := Lib.hid hb1
  have hs1 := HS.out.below hb1
  have HS1 := Lib.hid hs1
  clear hb1 hs1
  go_wp2_with fail
  refine (few_any a cap l W1 10 (by omega) hl HZ.out HS1.out).mono ?_
  rintro e W2 ⟨v2, rfl, hown2, hb2⟩
  obtain ⟨hfl, hfz⟩ := few_small l 10
  generalize fewL (l.take 10) = la at hown2 hfl hfz
  have HB2 := Lib.hid (HB1.out.trans (hb2.mono HB1.out.size))
  obtain ⟨a2, c2, rfl, hs2⟩ := hown2.strs
  have HS2 := Lib.hid hs2
  have HFZ := Lib.hid hfz
  clear hown2 hb2 hs2 hfz
  go_wp2_with fail
  have hr3 := row_one W2 W2.heap.size (Nat.le_refl _) caB
  have hb3 : Below W2.heap.size W2 (W2.alloc (.cells #[.string caB] 9)) := (Below.refl _ _).alloc (Nat.le_refl _) _
  change Calls Try.prog _ _ (W2.alloc (.cells #[.string caB] 9)) _
  generalize W2.alloc (.cells #[.string caB] 9) = W3 at hr3 hb3 ⊢
  have HR3 := Lib.hid hr3
  have HB3 := Lib.hid (HB2.out.trans (hb3.mono HB2.out.size))
  have HS3 := Lib.hid (HS2.out.below hb3)
  have HB23 := Lib.hid hb3
  clear hr3 hb3
  refine (few_any b capb m W3 10 (by omega) hlm HZM.out (HM.out.below HB3.out)).mono ?_
  rintro e W4 ⟨v4, rfl, hown4, hb4⟩
  obtain ⟨hfl4, hfz4⟩ := few_small m 10
  generalize fewL (m.take 10) = lm at hown4 hfl4 hfz4
  obtain ⟨a4, c4, rfl, hs4⟩ := hown4.strs
  have HB4 := Lib.hid (HB3.out.trans (hb4.mono HB3.out.size))
  have HR4 := Lib.hid (HR3.out.below hb4)
  have HS4 := Lib.hid (HS3.out.below hb4)
  have HX4 := Lib.hid (hs4.src c4)
  have HB24 := Lib.hid (HB23.out.trans (hb4.mono HB23.out.size))
  have HFZ4 := Lib.hid hfz4
  clear hown4 hb4 hs4 hfz4
  go_wp2_with (at_builtin; refine append_list rfl _ _ rfl W2.heap.size _ [caB] lm rfl HR4.out HX4.out (by simp; omega) HB24.out.size ?_; intro v5 W5 hr5 hg5)
  have hb5 := HB24.out.grown hg5 HB24.out.size HR4.out.1.ge
  have HB5 := Lib.hid (HB2.out.trans (hb5.mono HB2.out.size))
  have HS5 := Lib.hid (HS2.out.below hb5)
  obtain ⟨g5, c5, hv5⟩ := hr5.2
  obtain ⟨a5, c5', hv5', hs5⟩ := hr5.1.strs
  obtain ⟨lb, hlb⟩ : ∃ lb, [caB] ++ lm = lb := ⟨_, rfl⟩
  rw [hlb] at hv5 hv5' hs5
  subst hv5'
  have HLB := Lib.hid (show lb = caB :: lm from hlb.symm)
  have hbl : lb.length ≤ 11 := by rw [← hlb]; simp; omega
  have hbz : ∀ x ∈ lb, x.size ≤ 9 := by
    intro x hx
    rw [← hlb] at hx
    rcases List.mem_append.1 hx with hx | hx
    · rw [List.mem_singleton.1 hx]; decide
    · exact HFZ4.out x hx
  have HBZ := Lib.hid hbz
  have HT5 := Lib.hid hs5
  clear hb5 hr5 hg5 hs5 hlb hbz hv5
  refine (read_any a2 c2 la W5 (by omega) (fun x hx => Nat.le_trans (HFZ.out x hx) (by omega)) HS5.out).mono ?_
  rintro e W6 ⟨v6, xs, rfl, hk6, hx6, hb6⟩
  have HX := Lib.hid hx6
  have HXS := Lib.hid (read_small 10 9 hx6 hfl HFZ.out)
  have HB6 := Lib.hid (HB5.out.trans (hb6.mono HB5.out.size))
  have HS6 := Lib.hid (HS5.out.below hb6)
  have HT6 := Lib.hid (HT5.out.below hb6)
  have HK6 := Lib.hid hk6
  obtain ⟨a61, c61, a62, c62, rfl, -⟩ := hk6
  clear hx6 hb6
  go_wp2_with fail
  have hb7 : Below W6.heap.size W6 (W6.alloc (.cells #[.slice a61 (readA la).length c61, .slice a62 xs.length c62] 25)) := (Below.refl _ _).alloc (Nat.le_refl _) _
  have d0 : (W6.alloc (.cells #[.slice a61 (readA la).length c61, .slice a62 xs.length c62] 25)).cell? ⟨W6.heap.size, 0, none⟩ = some (.slice a61 (readA la).length c61) := World.cell?_alloc_new _ _ _ 0
  have d1 : (W6.alloc (.cells #[.slice a61 (readA la).length c61, .slice a62 xs.length c62] 25)).cell? ⟨W6.heap.size, 1, none⟩ = some (.slice a62 xs.length c62) := World.cell?_alloc_new _ _ _ 1
  generalize W6.alloc (.cells #[.slice a61 (readA la).length c61, .slice a62 xs.length c62] 25) = W7 at hb7 d0 d1 ⊢
  have HB7 := Lib.hid (HB6.out.trans (hb7.mono HB6.out.size))
  have HS7 := Lib.hid (HS6.out.below hb7)
  have HT7 := Lib.hid (HT6.out.below hb7)
  have HK7 := Lib.hid (HK6.out.below hb7)
  have HD7 := Lib.hid (And.intro d0 d1)
  clear hb7 d0 d1
  refine (read_any a5 c5' lb W7 (by omega) (fun x hx => Nat.le_trans (HBZ.out x hx) (by omega)) HT7.out).mono ?_
  rintro e W8 ⟨v8, ys, rfl, hk8, hx8, hb8⟩
  have HY := Lib.hid hx8
  have HYS := Lib.hid (read_small 11 9 hx8 hbl HBZ.out)
  have HB8 := Lib.hid (HB7.out.trans (hb8.mono HB7.out.size))
  have HS8 := Lib.hid (HS7.out.below hb8)
  have HT8 := Lib.hid (HT7.out.below hb8)
  have HK87 := Lib.hid (HK7.out.below hb8)
  have HK8 := Lib.hid hk8
  have HD8 := Lib.hid (And.intro ((hb8.cell (World.block_lt_of_cell? _ _ HD7.out.1)).trans HD7.out.1) ((hb8.cell (World.block_lt_of_cell? _ _ HD7.out.2)).trans HD7.out.2))
  obtain ⟨a81, c81, a82, c82, rfl, -⟩ := hk8
  clear hx8 hb8
  have HR9 := Lib.hid (show RowS ((W8.alloc (.cells #[.slice a81 (readA lb).length c81, .slice a82 ys.length c82] 25)).alloc (.cells #[] 9)) (W8.heap.size + 1) (.slice (some ⟨W8.heap.size + 1, 0, none⟩) 0 0) [] by
    have h := row_new (W8.alloc (.cells #[.slice a81 (readA lb).length c81, .slice a82 ys.length c82] 25)) (W8.heap.size + 1) (by simp)
    rw [World.size_alloc] at h
    exact h)
  have HBA := Lib.hid (show Below W8.heap.size W8 (W8.alloc (.cells #[.slice a81 (readA lb).length c81, .slice a82 ys.length c82] 25)) from (Below.refl _ _).alloc (Nat.le_refl _) _)
  have HB9 := Lib.hid (show Below (W8.heap.size + 1) (W8.alloc (.cells #[.slice a81 (readA lb).length c81, .slice a82 ys.length c82] 25)) ((W8.alloc (.cells #[.slice a81 (readA lb).length c81, .slice a82 ys.length c82] 25)).alloc (.cells #[] 9)) from (Below.refl _ _).alloc (by simp) _)
  have e80 : (W8.alloc (.cells #[.slice a81 (readA lb).length c81, .slice a82 ys.length c82] 25)).cell? ⟨W8.heap.size, 0, none⟩ = some (.slice a81 (readA lb).length c81) := World.cell?_alloc_new _ _ _ 0
  have e81 : (W8.alloc (.cells #[.slice a81 (readA lb).length c81, .slice a82 ys.length c82] 25)).cell? ⟨W8.heap.size, 1, none⟩ = some (.slice a82 ys.length c82) := World.cell?_alloc_new _ _ _ 1
  have HE8 := Lib.hid (And.intro e80 e81)
  have HSRC := Lib.hid ((HS8.out.src c2).below HBA.out)
  have HTSRC := Lib.hid ((HT8.out.src c5').below HBA.out)
  have HSZ := Lib.hid (show (W8.alloc (.cells #[.slice a81 (readA lb).length c81, .slice a82 ys.length c82] 25)).heap.size = W8.heap.size + 1 by simp)
  have HLW := Lib.hid (show ∀ W W' : World, Below (W8.heap.size + 1) (W8.alloc (.cells #[.slice a81 (readA lb).length c81, .slice a82 ys.length c82] 25)) W' → Below (W8.alloc (.cells #[.slice a81 (readA lb).length c81, .slice a82 ys.length c82] 25)).heap.size (W8.alloc (.cells #[.slice a81 (readA lb).length c81, .slice a82 ys.length c82] 25)) W' from fun _ _ h => by rw [HSZ.out]; exact h)
  have HSN := Lib.hid (fun (W' : World) (h : Below (W8.heap.size + 1) (W8.alloc (.cells #[.slice a81 (readA lb).length c81, .slice a82 ys.length c82] 25)) W') => (show W8.heap.size + 1 ≤ W'.heap.size by rw [← HSZ.out]; exact h.size))
  clear e80 e81
  go_wp2_with (first
    | (at_builtin; refine append_list rfl _ _ rfl (W8.heap.size + 1) _ [] la rfl HR9.out (HSRC.out.below (HLW.out W8 _ HB9.out)) (by simp; omega) (HSN.out _ HB9.out) ?_; intro v9 W9 hr9 hg9)
    | (at_builtin; refine append_list rfl _ _ rfl (W8.heap.size + 1) _ ([] ++ la) lb rfl hr9 (HTSRC.out.below (HLW.out W8 _ (HB9.out.grown hg9 (HSN.out _ HB9.out) HR9.out.1.ge))) (by simp; omega) (HSN.out _ (HB9.out.grown hg9 (HSN.out _ HB9.out) HR9.out.1.ge)) ?_; intro v10 W10 hr10 hg10)
    | fail)
  have hb9 := HB9.out.grown hg9 (HSN.out _ HB9.out) HR9.out.1.ge
  have hb10 := hb9.grown hg10 (HSN.out _ hb9) hr9.1.ge
  have hbB := HLW.out W8 _ hb10
  have hb8 := HBA.out.trans (hbB.mono HBA.out.size)
  rw [List.nil_append] at hr10
  obtain ⟨a10, c10, rfl, hs10⟩ := hr10.1.strs
  have hl10 : (la ++ lb).length ≤ 21 := by simp; omega
  have hz10 : ∀ x ∈ la ++ lb, x.size ≤ 9 := fun x hx => by
    rcases List.mem_append.1 hx with hx | hx
    · exact HFZ.out x hx
    · exact HBZ.out x hx
  have HRA := Lib.hid (show readA (la ++ lb) = readA la by rw [HLB.out]; exact readA_join la lm)
  have HRE := Lib.hid (show readE (la ++ lb) = readE la ++ readE lb by rw [HLB.out]; exact readE_join la lm)
  have HE10 := Lib.hid (And.intro ((hbB.cell (World.block_lt_of_cell? _ _ HE8.out.1)).trans HE8.out.1) ((hbB.cell (World.block_lt_of_cell? _ _ HE8.out.2)).trans HE8.out.2))
  have HD10 := Lib.hid (And.intro ((hb8.cell (World.block_lt_of_cell? _ _ HD8.out.1)).trans HD8.out.1) ((hb8.cell (World.block_lt_of_cell? _ _ HD8.out.2)).trans HD8.out.2))
  have HKA := Lib.hid (HK87.out.below hb8)
  have HKB := Lib.hid (HK8.out.below hb8)
  have HB10 := Lib.hid (HB8.out.trans (hb8.mono HB8.out.size))
  generalize la ++ lb = lc at hs10 hl10 hz10 HRA HRE ⊢
  have HS10 := Lib.hid hs10
  have HZ10 := Lib.hid hz10
  clear hb9 hb10 hbB hb8 hg9 hg10 hr9 hr10 hs10 hz10
  refine (read_any a10 c10 lc W10 (by omega) (fun x hx => Nat.le_trans (HZ10.out x hx) (by omega)) HS10.out).mono ?_
  rintro e W11 ⟨v11, zs, rfl, hk11, hx11, hb11⟩
  have HZX := Lib.hid hx11
  have HZS := Lib.hid (read_small 21 9 hx11 hl10 HZ10.out)
  have HK11 := Lib.hid hk11
  have HE11 := Lib.hid (And.intro ((hb11.cell (World.block_lt_of_cell? _ _ HE10.out.1)).trans HE10.out.1) ((hb11.cell (World.block_lt_of_cell? _ _ HE10.out.2)).trans HE10.out.2))
  have HD11 := Lib.hid (And.intro ((hb11.cell (World.block_lt_of_cell? _ _ HD10.out.1)).trans HD10.out.1) ((hb11.cell (World.block_lt_of_cell? _ _ HD10.out.2)).trans HD10.out.2))
  have HKA11 := Lib.hid (HKA.out.below hb11)
  have HKB11 := Lib.hid (HKB.out.below hb11)
  have HB11 := Lib.hid (HB10.out.trans (hb11.mono HB10.out.size))
  obtain ⟨a111, c111, a112, c112, rfl, -⟩ := hk11
  clear hx11 hb11
  go_upto_region 7 with fail
  have hF0 : (W11.alloc (.cells #[.slice a111 (readA lc).length c111, .slice a112 zs.length c112] 25)).cell? ⟨W11.heap.size, 0, none⟩ = some (.slice a111 (readA lc).length c111) := World.cell?_alloc_new _ _ _ 0
  have hF1 : (W11.alloc (.cells #[.slice a111 (readA lc).length c111, .slice a112 zs.length c112] 25)).cell? ⟨W11.heap.size, 1, none⟩ = some (.slice a112 zs.length c112) := World.cell?_alloc_new _ _ _ 1
  have hb12 : Below W11.heap.size W11 (W11.alloc (.cells #[.slice a111 (readA lc).length c111, .slice a112 zs.length c112] 25)) := (Below.refl _ _).alloc (Nat.le_refl _) _
  generalize W11.alloc (.cells #[.slice a111 (readA lc).length c111, .slice a112 zs.length c112] 25) = W12 at hF0 hF1 hb12 ⊢
  have HF12 := Lib.hid (And.intro hF0 hF1)
  have HE12 := Lib.hid (And.intro ((hb12.cell (World.block_lt_of_cell? _ _ HE11.out.1)).trans HE11.out.1) ((hb12.cell (World.block_lt_of_cell? _ _ HE11.out.2)).trans HE11.out.2))
  have HD12 := Lib.hid (And.intro ((hb12.cell (World.block_lt_of_cell? _ _ HD11.out.1)).trans HD11.out.1) ((hb12.cell (World.block_lt_of_cell? _ _ HD11.out.2)).trans HD11.out.2))
  have HKA12 := Lib.hid (HKA11.out.below hb12)
  have HKB12 := Lib.hid (HKB11.out.below hb12)
  have HK12 := Lib.hid (HK11.out.below hb12)
  have HB12 := Lib.hid (HB11.out.trans (hb12.mono HB11.out.size))
  clear hF0 hF1 hb12
  go_cut [9] (fun s9 wx => ∃ (g : Nat) (a9 : Option Addr) (c9 : Nat), s9 = .pointer (some ⟨g, 0, none⟩) ∧ Hid (wx.cell? ⟨g, 0, none⟩ = some (.slice a61 (readA la).length c61) ∧ wx.cell? ⟨g, 1, none⟩ = some (.slice a9 (xs ++ ys).length c9) ∧ XsAt wx a9 (xs ++ ys) ∧ (xs ++ ys).length ≤ c9 ∧ Below W12.heap.size W12 wx))
  case first =>
    have hxl := HXS.out.1
    have hyl := HYS.out.1
    have z6 : W6.heap.size < W12.heap.size := World.block_lt_of_cell? W12 _ HD12.out.1
    have z8 : W8.heap.size < W12.heap.size := World.block_lt_of_cell? W12 _ HE12.out.1
    have hd0 := HD12.out.1
    have hd1 := HD12.out.2
    have he1 := HE12.out.2
    have HCL := Lib.hid (fun (W' : World) (hb : Below W12.heap.size W12 W') => (show W'.cell? ⟨W6.heap.size, 0, none⟩ = some (.slice a61 (readA la).length c61) ∧ W'.cell? ⟨W6.heap.size, 1, none⟩ = some (.slice a62 xs.length c62) ∧ W'.cell? ⟨W8.heap.size, 1, none⟩ = some (.slice a82 ys.length c82) from ⟨(hb.cell (p := ⟨W6.heap.size, 0, none⟩) z6).trans HD12.out.1, (hb.cell (p := ⟨W6.heap.size, 1, none⟩) z6).trans HD12.out.2, (hb.cell (p := ⟨W8.heap.size, 1, none⟩) z8).trans HE12.out.2⟩))
    have HSX := Lib.hid (fun (W' : World) (hb : Below W12.heap.size W12 W') => (show SrcX W' (.slice a62 xs.length c62) xs by
      obtain ⟨aA, cA, aK, cK, e, h1, h2, h3, h4, h5⟩ := HKA12.out.below hb
      simp only [Value.agg.injEq, Array.mk.injEq, List.cons.injEq, Value.slice.injEq, and_true, true_and] at e
      obtain ⟨-, rfl, rfl⟩ := e
      exact h4.src _))
    have HSY := Lib.hid (fun (W' : World) (hb : Below W12.heap.size W12 W') => (show SrcX W' (.slice a82 ys.length c82) ys by
      obtain ⟨aA, cA, aK, cK, e, h1, h2, h3, h4, h5⟩ := HKB12.out.below hb
      simp only [Value.agg.injEq, Array.mk.injEq, List.cons.injEq, Value.slice.injEq, and_true, true_and] at e
      obtain ⟨-, rfl, rfl⟩ := e
      exact h4.src _))
    have HRa := Lib.hid (show RowX (W12.alloc (.cells #[] 37)).drew W12.heap.size (.slice (some ⟨W12.heap.size, 0, none⟩) 0 0) [] from row_newX W12 W12.heap.size (Nat.le_refl _))
    have HBa := Lib.hid (show Below W12.heap.size W12 (W12.alloc (.cells #[] 37)).drew from ((Below.refl _ _).alloc (Nat.le_refl _) _).drew)
    have HRb := Lib.hid (show RowX ((W12.alloc (.cells #[.slice none 0 0, .slice none 0 0] 25)).alloc (.cells #[] 37)).drew W12.heap.size (.slice (some ⟨W12.heap.size + 1, 0, none⟩) 0 0) [] by
      have h := row_newX (W12.alloc (.cells #[.slice none 0 0, .slice none 0 0] 25)) W12.heap.size (by simp)
      rw [World.size_alloc] at h
      exact h)
    have HBb := Lib.hid (show Below W12.heap.size W12 ((W12.alloc (.cells #[.slice none 0 0, .slice none 0 0] 25)).alloc (.cells #[] 37)).drew from (((Below.refl _ _).alloc (Nat.le_refl _) _).alloc (by simp) _).drew)
    have HXb := Lib.hid (show BoxK ((W12.alloc (.cells #[.slice none 0 0, .slice none 0 0] 25)).alloc (.cells #[] 37)).drew W12.heap.size from (BoxK.new W12).alloc _)
    have HRc := Lib.hid (show RowX ((W12.alloc (.cells #[] 37)).alloc (.cells #[.slice none 0 0, .slice none 0 0] 25)).drew W12.heap.size (.slice (some ⟨W12.heap.size, 0, none⟩) 0 0) [] from ⟨OwnX.alloc (row_newX W12 W12.heap.size (Nat.le_refl _)).1 _, W12.heap.size, 0, rfl⟩)
    have HBc := Lib.hid (show Below W12.heap.size W12 ((W12.alloc (.cells #[] 37)).alloc (.cells #[.slice none 0 0, .slice none 0 0] 25)).drew from (((Below.refl _ _).alloc (Nat.le_refl _) _).alloc (by simp) _).drew)
    have HXc := Lib.hid (show BoxK ((W12.alloc (.cells #[] 37)).alloc (.cells #[.slice none 0 0, .slice none 0 0] 25)).drew (W12.heap.size + 1) by
      have h := BoxK.new (W12.alloc (.cells #[] 37))
      rw [World.size_alloc] at h
      exact h)
    have hl1 : ([] : List XE).length + xs.length ≤ 1000000 := by simp; omega
    have hl2 : ([] ++ xs : List XE).length + ys.length ≤ 1000000 := by simp; omega
    go_region_held3 (fun w' => w'.cell? ⟨W6.heap.size, 0, none⟩ = some (.slice a61 (readA la).length c61) ∧ w'.cell? ⟨W6.heap.size, 1, none⟩ = some (.slice a62 xs.length c62) ∧ w'.cell? ⟨W8.heap.size, 1, none⟩ = some (.slice a82 ys.length c82))
      (first | (refine ⟨?_, ?_, ?_⟩ <;> assumption) | go_keep | (refine ⟨?_, ?_, ?_⟩ <;> (rw [World.cell?_setCell_other (h := by intro h; injection h; omega), World.cell?_setCell_other (h := by intro h; injection h; omega)]; assumption)))
      (first
        | (rw [if_pos (by rfl)]; refine append_opX _ _ rfl W12.heap.size _ [] xs (by rfl) HRa.out (HSX.out _ HBa.out) hl1 HBa.out.size ?_; intro v13 W13 hr13 hg13; have hb13 := HBa.out.grown hg13 HBa.out.size HRa.out.1.ge; obtain ⟨s0, s1, s2⟩ := HCL.out _ hb13; have z13 : W12.heap.size ≤ W13.heap.size := hb13.size; have HR13 := Lib.hid hr13; have HB13 := Lib.hid hb13; clear hr13 hg13 hb13)
        | (rw [if_pos (by rfl)]; refine append_opX _ _ rfl W12.heap.size _ [] xs (by rfl) HRb.out (HSX.out _ HBb.out) hl1 HBb.out.size ?_; intro v13 W13 hr13 hg13; have hb13 := HBb.out.grown hg13 HBb.out.size HRb.out.1.ge; obtain ⟨s0, s1, s2⟩ := HCL.out _ hb13; have z13 : W12.heap.size ≤ W13.heap.size := hb13.size; have HX13 := Lib.hid (BoxK.grown HXb.out HRb.out.1 hg13); have HR13 := Lib.hid hr13; have HB13 := Lib.hid hb13; clear hr13 hg13 hb13)
        | (rw [if_pos (by rfl)]; refine append_opX _ _ rfl W12.heap.size _ [] xs (by rfl) HRc.out (HSX.out _ HBc.out) hl1 HBc.out.size ?_; intro v13 W13 hr13 hg13; have hb13 := HBc.out.grown hg13 HBc.out.size HRc.out.1.ge; obtain ⟨s0, s1, s2⟩ := HCL.out _ hb13; have z13 : W12.heap.size ≤ W13.heap.size := hb13.size; have HX13 := Lib.hid (BoxK.grown HXc.out HRc.out.1 hg13); have HR13 := Lib.hid hr13; have HB13 := Lib.hid hb13; clear hr13 hg13 hb13)
        | (rw [if_pos (by rfl)]; refine append_opX _ _ rfl W12.heap.size v13 ([] ++ xs) ys (by rfl) HR13.out (HSY.out _ HB13.out) hl2 HB13.out.size ?_; intro v14 W14 hr14 hg14; have hb14 := HB13.out.grown hg14 HB13.out.size HR13.out.1.ge; obtain ⟨t0, t1, t2⟩ := HCL.out _ hb14; have z14 : W12.heap.size ≤ W14.heap.size := hb14.size; (try (have hx14 := BoxK.grown HX13.out HR13.out.1 hg14; have HX14 := Lib.hid hx14; obtain ⟨c0, c1, f0, f1⟩ := hx14.facts; clear hx14)); obtain ⟨a14, c14, hv14, hc14, -⟩ := hr14.1.xs; rw [List.nil_append, List.length_append] at hv14; subst hv14; have HR14 := Lib.hid hr14.1; have HC14 := Lib.hid hc14; have HB14 := Lib.hid hb14; clear hr14 hg14 hb14 hc14)
        | (rw [if_pos (by rfl)]; refine append_opX _ _ rfl W12.heap.size v13 ([] ++ xs) ys (by rfl) (show RowX (W13.alloc (.cells #[.slice none 0 0, .slice none 0 0] 25)) W12.heap.size v13 ([] ++ xs) from ⟨HR13.out.1.alloc _, HR13.out.2⟩) (HSY.out _ (HB13.out.alloc HB13.out.size _)) hl2 (HB13.out.alloc HB13.out.size _).size ?_; intro v14 W14 hr14 hg14; have hb14 := (HB13.out.alloc HB13.out.size (.cells #[.slice none 0 0, .slice none 0 0] 25)).grown hg14 (HB13.out.alloc HB13.out.size _).size HR13.out.1.ge; obtain ⟨t0, t1, t2⟩ := HCL.out _ hb14; have z14 : W12.heap.size ≤ W14.heap.size := hb14.size; have hx14 := BoxK.grown (BoxK.new W13) (HR13.out.1.alloc _) hg14; have HX14 := Lib.hid hx14; obtain ⟨c0, c1, f0, f1⟩ := hx14.facts; clear hx14; obtain ⟨a14, c14, hv14, hc14, -⟩ := hr14.1.xs; rw [List.nil_append, List.length_append] at hv14; subst hv14; have HR14 := Lib.hid hr14.1; have HC14 := Lib.hid hc14; have HB14 := Lib.hid hb14; clear hr14 hg14 hb14 hc14))
    all_goals
      have HR15 := Lib.hid (show OwnX W14 W12.heap.size (.slice a14 (xs.length + ys.length) c14) (xs ++ ys) by have h := HR14.out; rw [List.nil_append] at h; exact h)
      have hL : xs.length + ys.length = (xs ++ ys).length := List.length_append.symm
      have HL := Lib.hid hL
      clear hL
      go_simp
      go_wp2_with fail
      go_meet
    all_goals
      first
        | exact ⟨_, a14, c14, rfl, Lib.hid (by rw [← HL.out]; exact join_new rfl HL.out HR15.out HC14.out HB14.out)⟩
        | exact ⟨_, a14, c14, rfl, Lib.hid (by rw [← HL.out]; exact join_put rfl HL.out HX14.out (by omega) HR15.out HC14.out HB14.out)⟩
        | (trace_state; sorry)
  case rest =>
    obtain ⟨g, a9, c9, rfl, HC⟩ := hcut
    generalize wc = W13 at HC ⊢
    have hb13 := HC.out.2.2.2.2
    have k80 := (hb13.cell (World.block_lt_of_cell? _ _ HF12.out.1)).trans HF12.out.1
    have k81 := (hb13.cell (World.block_lt_of_cell? _ _ HF12.out.2)).trans HF12.out.2
    have k70 := (hb13.cell (World.block_lt_of_cell? _ _ HE12.out.1)).trans HE12.out.1
    have k71 := (hb13.cell (World.block_lt_of_cell? _ _ HE12.out.2)).trans HE12.out.2
    have k90 := HC.out.1
    have k91 := HC.out.2.1
    have HKZ := Lib.hid (HK12.out.below hb13)
    have HB13 := Lib.hid (HB12.out.trans (hb13.mono HB12.out.size))
    have HKW : Hid (KwAt W13 (.agg #[.slice a61 (readA la).length c61, .slice a9 (xs ++ ys).length c9]) (readA la) (xs ++ ys)) := Lib.hid (by
      obtain ⟨aA, cA, aK, cK, e, h1, h2, h3, h4, h5⟩ := HKA12.out.below hb13
      obtain ⟨_, _, _, _, _, _, _, _, _, h6⟩ := HKB12.out.below hb13
      simp only [Value.agg.injEq, Array.mk.injEq, List.cons.injEq, Value.slice.injEq, and_true, true_and] at e
      obtain ⟨⟨rfl, rfl⟩, -⟩ := e
      exact ⟨_, _, _, _, rfl, h1, HC.out.2.2.2.1, h3, HC.out.2.2.1, fun x hx => by
        rcases List.mem_append.1 hx with hx | hx
        · exact h5 x hx
        · exact h6 x hx⟩)
    have hlen : (xs ++ ys).length ≤ 21 := by have := HXS.out.1; have := HYS.out.1; simp; omega
    have hA0 : (readA lb).length = 0 := by rw [HLB.out, readA_ca]; rfl
    have hY1 : 1 ≤ ys.length := by
      have := congrArg List.length HY.out
      rw [List.length_map] at this
      rw [this, HLB.out]; exact readE_ca lm
    have HLEN := Lib.hid hlen
    clear hb13 hlen
    have HA0 := Lib.hid hA0
    have HY1 := Lib.hid hY1
    clear hA0 hY1
    go_wp2_with fail
    rw [← List.length_append]
    have hzl := HZS.out.1
    have hlen2 := HLEN.out
    have hla : (readA la).length ≤ 10 := Nat.le_trans (readA_len la) hfl
    have hlc : (readA lc).length ≤ 10 := by rw [HRA.out]; exact hla
    refine (sameK_any _ _ (readA lc) (readA la) zs (xs ++ ys) W13 HKZ.out HKW.out ⟨by omega, by omega, by omega, by omega⟩ (fun x hx => by have := (HZS.out.2 x hx).2; omega) (fun x hx => by
      rcases List.mem_append.1 hx with hx | hx
      · have := (HXS.out.2 x hx).2; omega
      · have := (HYS.out.2 x hx).2; omega)).mono ?_
    rintro e W14 ⟨rfl, hb14⟩
    rw [decide_eq_true (show readA lc = readA la ∧ zs.map XE.val = (xs ++ ys).map XE.val from ⟨HRA.out, by rw [HZX.out, HRE.out, List.map_append, HX.out, HY.out]⟩)]
    have m70 := (hb14.cell (World.block_lt_of_cell? _ _ k70)).trans k70
    have m71 := (hb14.cell (World.block_lt_of_cell? _ _ k71)).trans k71
    have HB14 := Lib.hid (HB13.out.trans (hb14.mono HB13.out.size))
    clear hb14 k70 k71 k80 k81 k90 k91 hzl hlen2 hla hlc
    have hA0 := HA0.out
    rw [hA0] at m70
    have hY1 : (1 : Int) ≤ ys.length := by have := HY1.out; omega
    clear hA0
    go_wp2_with fail
    go_ret
    exact ⟨rfl, HB14.out⟩

end Go.Proofs.Ytimcjkkbooinbaa
