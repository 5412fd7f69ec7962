/- Order, walked. -/
import Derived.Test.YtimcjkkbooinbaaGn
import Derived.Deep.DeepCutAuto
import Derived.Deep.RegionHeld3
namespace Go.Proofs.Ytimcjkkbooinbaa
open Go.RowKit Go.Shelf Go.Sort

/-- true alone is no value. -/
def bareX (x : XE) : XE := { x with sub := none, cap := 0, subs := [] }
def plainX (x : XE) : XE := if x.subs = [⟨#[116, 114, 117, 101]⟩] then bareX x else x

theorem equal_any (a b : Option Addr) (c d : Nat) (xs ys : List ByteArray) (w : World) (hl : xs.length ≤ 1000000) (hl2 : ys.length ≤ 1000000) (hx : StrsAt w a xs) (hy : StrsAt w b ys) :
    Calls Try.prog 30 #[.slice a xs.length c, .slice b ys.length d] w (Quietly w (.bool (decide (xs = ys)))) := by
  by_cases hlen : xs.length = ys.length
  · by_cases h0 : xs = []
    · subst h0
      refine (Try.slices_Equal_string_empty a b c ys.length d w (by omega)).mono ?_
      rintro e w' ⟨rfl, rfl⟩
      have : ys = [] := List.length_eq_zero_iff.1 hlen.symm
      subst this
      exact .mk 0 rfl rfl
    · have h1 : ys ≠ [] := fun e => h0 (List.length_eq_zero_iff.1 (by rw [hlen, e]; rfl))
      obtain ⟨b1, o1, rfl, _, k1⟩ := hx.some h0
      obtain ⟨b2, o2, rfl, _, k2⟩ := hy.some h1
      refine (Try.slices_Equal_string b1 o1 xs.length c b2 o2 ys.length d xs ys w (Nat.le_refl _) (Nat.le_refl _) (by omega) (by omega) (fun j hj => by rw [k1 j hj]; simp [hj]) (fun j hj => by rw [k2 j hj]; simp [hj])).mono ?_
      rintro e w' ⟨rfl, q, rfl⟩
      exact .mk q (by rw [List.take_length, List.take_length]) rfl
  · refine (Try.slices_Equal_string_lens a b xs.length c ys.length d w hlen).mono ?_
    rintro e w' ⟨rfl, rfl⟩
    exact .mk 0 (by rw [decide_eq_false (fun e => hlen (by rw [e]))]) rfl

theorem flat_set : ∀ (us : List XE) (k : Nat) (hk : k < us.length), (us.flatMap encX).set (k * 2 + 1) (.slice none 0 0) = (us.set k (bareX us[k])).flatMap encX
  | [], k, hk => by simp at hk
  | x :: us, 0, _ => rfl
  | x :: us, k + 1, hk => by
    rw [List.flatMap_cons, show (k + 1) * 2 + 1 = k * 2 + 1 + 1 + 1 by omega]
    show encX x ++ (us.flatMap encX).set (k * 2 + 1) (.slice none 0 0) = encX x ++ (us.set k (bareX (us[k]'(by simpa using hk)))).flatMap encX
    rw [flat_set us k (by simpa using hk)]

theorem OwnX.at {w : World} {base : Nat} {xs : List XE} {a : Option Addr} {n c : Nat} (h : OwnX w base (.slice a n c) xs) (k : Nat) (hk : k < xs.length) :
    ∃ b, a = some ⟨b, 0, none⟩ ∧ base ≤ b ∧ w.cell? ⟨b, k * 2, none⟩ = some (.string xs[k].key) ∧ w.cell? ⟨b, k * 2 + 1, none⟩ = some (.slice xs[k].sub xs[k].subs.length xs[k].cap) ∧ w.frozen? ⟨b, k * 2 + 1, none⟩ = false := by
  rcases h.2 with ⟨_, h0⟩ | ⟨g, cap, cur, e, hb, hg, _⟩
  · omega
  · cases e
    have h1 := h.cells (g := g) rfl (k * 2) _ (flat_enc xs k hk).1
    have h2 := h.cells (g := g) rfl (k * 2 + 1) _ (flat_enc xs k hk).2
    rw [add_plain, Nat.zero_add] at h1 h2
    exact ⟨g, rfl, hb, h1, h2, by simp [World.frozen?, hg]⟩

theorem OwnX.bare {w : World} {base b n c : Nat} {xs : List XE} (h : OwnX w base (.slice (some ⟨b, 0, none⟩) n c) xs) (k : Nat) (hk : k < xs.length) :
    OwnX (w.setCell ⟨b, k * 2 + 1, none⟩ (.slice none 0 0)) base (.slice (some ⟨b, 0, none⟩) n c) (xs.set k (bareX xs[k])) := by
  rcases h.2 with ⟨e, _⟩ | ⟨g, cap, cur, e, hb, hg, h1, h2, h3, h4⟩
  · cases e
  · cases e
    refine ⟨by rw [flat_len], .inr ⟨b, c, cur.setIfInBounds (k * 2 + 1) (.slice none 0 0), by rw [List.length_set], hb, heap_setCell_same w b (k * 2 + 1) cur _ _ hg, by simpa using h1, h2, by simpa using h3, ?_⟩⟩
    rw [Array.toList_setIfInBounds, List.take_set, List.length_set, h4, flat_set xs k hk]

/-- A new box for keywords. -/
def Box (W : World) (g : Nat) : Prop := W.cell? ⟨g, 0, none⟩ = some (.slice none 0 0) ∧ W.cell? ⟨g, 1, none⟩ = some (.slice none 0 0) ∧ W.frozen? ⟨g, 0, none⟩ = false ∧ W.frozen? ⟨g, 1, none⟩ = false

theorem Box.new (W : World) : Box (W.alloc (.cells #[.slice none 0 0, .slice none 0 0] 25)) W.heap.size := by
  refine ⟨World.cell?_alloc_new _ _ _ 0, World.cell?_alloc_new _ _ _ 1, by simp, by simp⟩
theorem Box.below {W W' : World} {g : Nat} (h : Box W g) (hb : Below W.heap.size W W') : Box W' g := by
  have hl : g < W.heap.size := World.block_lt_of_cell? W _ h.1
  exact ⟨(hb.cell (p := ⟨g, 0, none⟩) hl).trans h.1, (hb.cell (p := ⟨g, 1, none⟩) hl).trans h.2.1, (hb.frozen (p := ⟨g, 0, none⟩) hl).trans h.2.2.1, (hb.frozen (p := ⟨g, 1, none⟩) hl).trans h.2.2.2⟩
theorem Box.grown {W W' : World} {g : Nat} {row : Option Nat} (h : Box W g) (hg : W.grownBy W' row) (hne : some g ≠ row) : Box W' g := by
  have hl : g < W.heap.size := World.block_lt_of_cell? W _ h.1
  have hh := hg.block g hl hne
  exact ⟨(World.cell?_of_block (a := ⟨g, 0, none⟩) hh).trans h.1, (World.cell?_of_block (a := ⟨g, 1, none⟩) hh).trans h.2.1, (World.frozen?_of_block (a := ⟨g, 0, none⟩) hh).trans h.2.2.1, (World.frozen?_of_block (a := ⟨g, 1, none⟩) hh).trans h.2.2.2⟩

/-- The ordered keywords as they lie in their box. -/
structure OrdSt (W2 wx : World) (g : Nat) (v5 v6 : Value) (bs : List ByteArray) (us : List XE) : Prop where
  c0 : wx.cell? ⟨g, 0, none⟩ = some v5
  c1 : wx.cell? ⟨g, 1, none⟩ = some v6
  own5 : OwnS wx W2.heap.size v5 bs
  own6 : OwnX wx W2.heap.size v6 us
  n6 : v6.ownBlock ≠ some g
  n56 : ∀ k, v6.ownBlock = some k → v5.ownBlock ≠ some k
  b : Below W2.heap.size W2 wx

theorem OwnS.set {w : World} {base : Nat} {v : Value} {xs : List ByteArray} (h : OwnS w base v xs) {p : Addr} (hp : v.ownBlock ≠ some p.block) (u : Value) : OwnS (w.setCell p u) base v xs :=
  World.ownsRow.kept (row := some p.block) h ⟨by simp [World.setCell], by simp [World.setCell], by simp [World.setCell], by simp [World.setCell], fun i _ hi => Below.heap_setCell w p u i (fun e => hi (by rw [e]))⟩ (.inr hp)

theorem OrdSt.later {W2 w w' : World} {g : Nat} {v5 v6 : Value} {bs : List ByteArray} {us : List XE} (h : OrdSt W2 w g v5 v6 bs us) (hb : Below w.heap.size w w') : OrdSt W2 w' g v5 v6 bs us :=
  ⟨(hb.cell (p := ⟨g, 0, none⟩) (World.block_lt_of_cell? w _ h.c0)).trans h.c0, (hb.cell (p := ⟨g, 1, none⟩) (World.block_lt_of_cell? w _ h.c1)).trans h.c1, h.own5.below hb, h.own6.below hb, h.n6, h.n56, h.b.trans (hb.mono h.b.size)⟩

theorem OrdSt.bare {W2 w : World} {g b n c : Nat} {v5 : Value} {bs : List ByteArray} {us : List XE} (h : OrdSt W2 w g v5 (.slice (some ⟨b, 0, none⟩) n c) bs us) (hb : W2.heap.size ≤ b) (k : Nat) (hk : k < us.length) :
    OrdSt W2 (w.setCell ⟨b, k * 2 + 1, none⟩ (.slice none 0 0)) g v5 (.slice (some ⟨b, 0, none⟩) n c) bs (us.set k (bareX us[k])) := by
  have hne : b ≠ g := fun e => h.n6 (by rw [e]; rfl)
  exact ⟨(World.cell?_of_block (a := ⟨g, 0, none⟩) (Below.heap_setCell w ⟨b, k * 2 + 1, none⟩ _ g hne.symm)).trans h.c0, (World.cell?_of_block (a := ⟨g, 1, none⟩) (Below.heap_setCell w ⟨b, k * 2 + 1, none⟩ _ g hne.symm)).trans h.c1,
    OwnS.set h.own5 (p := ⟨b, k * 2 + 1, none⟩) (h.n56 b rfl) _, OwnX.bare h.own6 k hk, h.n6, h.n56, h.b.setCell (p := ⟨b, k * 2 + 1, none⟩) hb _⟩

/-- The row so far: bare as far as it has been looked at. -/
def upd (os : List XE) (k : Nat) : List XE := (os.take k).map plainX ++ os.drop k
theorem upd_len (os : List XE) (k : Nat) : (upd os k).length = os.length := by simp [upd]; omega
theorem upd_at (os : List XE) (k : Nat) (hk : k < os.length) : (upd os k)[k]'(by rw [upd_len]; exact hk) = os[k] := by
  unfold upd
  rw [List.getElem_append_right (by simp; omega)]
  simp [Nat.min_eq_left (Nat.le_of_lt hk)]
theorem upd_bare (os : List XE) (k : Nat) (hk : k < os.length) (h : plainX os[k] = bareX os[k]) : (upd os k).set k (bareX os[k]) = upd os (k + 1) := by
  unfold upd
  have hl : ((os.take k).map plainX).length = k := by simp; omega
  rw [List.take_succ_eq_append_getElem hk, List.map_append, List.drop_eq_getElem_cons hk, List.set_append_right _ _ (by omega), hl, Nat.sub_self, List.append_assoc, List.set_cons_zero]
  simp only [h, List.map_cons, List.map_nil, List.cons_append, List.nil_append]
theorem upd_same (os : List XE) (k : Nat) (hk : k < os.length) (h : plainX os[k] = os[k]) : upd os k = upd os (k + 1) := by
  unfold upd
  rw [List.take_succ_eq_append_getElem hk, List.map_append, List.drop_eq_getElem_cons hk]
  simp [h]

theorem OrdSt.new {W2 w6 : World} {v5 v6 : Value} {bs : List ByteArray} {us : List XE} (h5 : OwnS w6 W2.heap.size v5 bs) (h6 : OwnX w6 W2.heap.size v6 us) (n56 : ∀ k, v6.ownBlock = some k → v5.ownBlock ≠ some k) (hb : Below W2.heap.size W2 w6) :
    OrdSt W2 (w6.alloc (.cells #[v5, v6] 25)) w6.heap.size v5 v6 bs us :=
  ⟨World.cell?_alloc_new _ _ _ 0, World.cell?_alloc_new _ _ _ 1, h5.alloc _, h6.alloc _, fun h => absurd (World.ownsRow.lt h6 _ h).2 (Nat.lt_irrefl _), n56, hb.alloc hb.size _⟩

theorem OrdSt.put {W2 w6 : World} {g : Nat} {v5 v6 : Value} {bs : List ByteArray} {us : List XE} (hg : W2.heap.size ≤ g) (hx : Box w6 g) (h5 : OwnS w6 W2.heap.size v5 bs) (h6 : OwnX w6 W2.heap.size v6 us) (n5 : v5.ownBlock ≠ some g) (n6 : v6.ownBlock ≠ some g) (n56 : ∀ k, v6.ownBlock = some k → v5.ownBlock ≠ some k) (hb : Below W2.heap.size W2 w6) :
    OrdSt W2 ((w6.setCell ⟨g, 0, none⟩ v5).setCell ⟨g, 1, none⟩ v6) g v5 v6 bs us := by
  refine ⟨?_, ?_, ?_, ?_, n6, n56, (hb.setCell (p := ⟨g, 0, none⟩) hg _).setCell (p := ⟨g, 1, none⟩) hg _⟩
  · rw [World.cell?_setCell_other (h := by simp)]
    exact World.cell?_setCell_same' _ _ _ (by rw [hx.1]; rfl)
  · exact World.cell?_setCell_same' _ _ _ (by rw [World.cell?_setCell_other (h := by simp), hx.2.1]; rfl)
  · exact OwnS.set (OwnS.set h5 (p := ⟨g, 0, none⟩) n5 _) (p := ⟨g, 1, none⟩) n5 _
  · exact OwnX.set (OwnX.set h6 (p := ⟨g, 0, none⟩) n6 _) (p := ⟨g, 1, none⟩) n6 _

set_option maxHeartbeats 2000000 in
set_option maxRecDepth 100000 in
theorem order_any (v : Value) (attrs : List ByteArray) (xs : List XE) (w : World) (hv : KwAt w v attrs xs) (hl : attrs.length ≤ 10000 ∧ xs.length ≤ 10000) (hz : ∀ x ∈ xs, x.key.size ≤ 100000 ∧ x.subs.length ≤ 1000000) :
    Calls Try.prog 18 #[v] w fun e w' => ∃ v1 v2 bs os, e = .returned (.agg #[v1, v2]) ∧ OwnS w' w.heap.size v1 bs ∧ OwnX w' w.heap.size v2 (os.map plainX) ∧ RisingS bs ∧ (∀ s, s ∈ bs ↔ s ∈ attrs) ∧ bs.length ≤ attrs.length ∧ os.Perm (firstsX xs) ∧ SortedX os ∧ Below w.heap.size w w' := by
  obtain ⟨aA, cA, aK, cK, rfl, hcA, hcK, hA, hK, hO⟩ := hv
  have HA := Lib.hid hA
  have HK := Lib.hid hK
  have HO := Lib.hid hO
  have HZ := Lib.hid hz
  clear hA hK hO hz
  go_enter Try.func18, Try.ntmps18
  go_wp2_with fail
  obtain ⟨W2, hW2⟩ : ∃ W2, (w.alloc (.cells #[.slice aA attrs.length cA, .slice aK xs.length cK] 25)).alloc (.cells #[.slice none 0 0, .slice none 0 0] 25) = W2 := ⟨_, rfl⟩
  have hb2 : Below w.heap.size w W2 := by rw [← hW2]; exact ((Below.refl _ _).alloc (Nat.le_refl _) _).alloc (by simp) _
  have hz2 : W2.heap.size = w.heap.size + 2 := by rw [← hW2]; simp
  have r1 : W2.cell? ⟨w.heap.size, 1, none⟩ = some (.slice aK xs.length cK) := by rw [← hW2, World.cell?_alloc_past _ _ _ (by simp)]; exact World.cell?_alloc_new w _ _ 1
  have g0 : W2.cell? ⟨w.heap.size + 1, 0, none⟩ = some (.slice none 0 0) := by rw [← hW2]; simp
  have g1 : W2.cell? ⟨w.heap.size + 1, 1, none⟩ = some (.slice none 0 0) := by rw [← hW2]; simp
  have fg : ∀ i, W2.frozen? ⟨w.heap.size + 1, i, none⟩ = false := by intro i; rw [← hW2]; simp
  rw [hW2]
  clear hW2
  refine (clone_any aA cA attrs W2 (by omega) (HA.out.below hb2)).mono ?_
  rintro e W3 ⟨v3, rfl, hown3, hb3⟩
  have HO3 := Lib.hid hown3
  have HB3 := Lib.hid hb3
  have HG := Lib.hid (show _ ∧ _ ∧ _ ∧ _ from ⟨r1, g0, g1, fg⟩)
  have HB2 := Lib.hid hb2
  have HZ2 := Lib.hid hz2
  clear hown3 hb3 r1 g0 g1 fg hb2 hz2
  go_wp2_with fail
  refine (sortS_any W2.heap.size v3 attrs W3 HO3.out (by omega)).mono ?_
  rintro e W4 ⟨rfl, ys, hperm, hsort, hown4, hb4⟩
  have HP := Lib.hid hperm
  have HSO := Lib.hid hsort
  have HO4 := Lib.hid hown4
  have hb4 := HB3.out.trans hb4
  have HB4 := Lib.hid hb4
  have hr1 := (hb4.cell (p := ⟨w.heap.size, 1, none⟩) (by rw [HZ2.out]; show w.heap.size < _; omega)).trans HG.out.1
  clear hperm hsort hown4 hb4
  go_wp2_with fail
  go_upto_region 3 with fail
  go_cut [4] (fun s4 wx => ∃ (g : Nat) (v5 v6 : Value) (bs : List ByteArray) (os : List XE), s4 = .pointer (some ⟨g, 0, none⟩) ∧ Hid (OrdSt W2 wx g v5 v6 bs os) ∧ Hid (RisingS bs ∧ (∀ s, s ∈ bs ↔ s ∈ ys) ∧ bs.length ≤ ys.length) ∧ Hid (os.Perm (firstsX xs) ∧ SortedX os))
  case first =>
    have hS0 : W4.drew.cell? ⟨w.heap.size, 1, none⟩ = some (.slice aK xs.length cK) := hr1
    have HC := Lib.hid (fun (W : World) (hO : OwnS W W2.heap.size v3 ys) => compact_any W2.heap.size v3 ys W hO (by rw [HP.out.length_eq]; omega) HSO.out)
    have HCL := Lib.hid (fun (W w' : World) (hb : Below W2.heap.size W w') => (hb.cell (p := ⟨w.heap.size, 1, none⟩) (by rw [HZ2.out]; show w.heap.size < _; omega)))
    have hs24 : W2.heap.size ≤ W4.heap.size := HB4.out.size
    have HF := Lib.hid (fun (W : World) (hb : Below W2.heap.size W4.drew W) => first_any aK cK xs W (by omega) (fun x hx => (HZ.out x hx).1) (HK.out.below (HB2.out.trans ((HB4.out.trans ((Below.refl W2.heap.size W4).drew.trans hb)).mono (by rw [HZ2.out]; omega)))))
    have HA1 := Lib.hid (fun (o : Obj) (W : World) (hb : Below W2.heap.size (W4.drew.alloc o) W) => ((Below.refl W2.heap.size W4.drew).alloc hs24 o).trans hb)
    have HA2 := Lib.hid (fun (o : Obj) (W : World) (hb : Below W2.heap.size W4.drew W) => hb.alloc (Nat.le_trans hs24 hb.size) o)
    have hown3 := fun g hg => (World.ownsRow.lt HO4.out g hg).2
    have HBX := Lib.hid (fun (W : World) (hg : (W4.drew.alloc (.cells #[.slice none 0 0, .slice none 0 0] 25)).grownBy W v3.ownBlock) => (show Box W W4.heap.size from Box.grown (Box.new W4.drew) hg (fun h => absurd (hown3 _ h.symm) (Nat.lt_irrefl _))))
    have HLT := Lib.hid hown3
    clear hown3
    have z4 : w.heap.size + 2 ≤ W4.heap.size := by rw [← HZ2.out]; exact hs24
    go_region_held3 (fun w' => w'.cell? ⟨w.heap.size, 1, none⟩ = some (.slice aK xs.length cK))
      (first | assumption | go_keep | (rw [World.cell?_setCell_other (h := by intro h; injection h; omega), World.cell?_setCell_other (h := by intro h; injection h; omega)]; assumption))
      (first
        | (go_at_call 28; refine (HC.out _ (by first | exact HO4.out | exact OwnS.alloc (w := W4.drew) HO4.out _)).mono ?_; rintro e w5 ⟨v5, bs, rfl, h51, h52, h53, h54, h55, h56, h57⟩; have HN5 := Lib.hid h57; obtain ⟨a5, c5, hv5, -⟩ := h54.strs; subst hv5; have H5 := Lib.hid (And.intro h51 (And.intro h52 h53)); have HO5 := Lib.hid h54; have HG5 := Lib.hid h56; have hS := (HCL.out _ _ h55).trans ‹_›; have z5 : w.heap.size + 2 ≤ w5.heap.size := Nat.le_trans z4 (Nat.le_trans (by simp) h56.size); have HB5 : Hid (Below W2.heap.size W4.drew w5) := Lib.hid (by first | exact h55 | exact HA1.out _ _ h55); try (have bb := HBX.out _ h56; obtain ⟨b0, b1, b2, b3⟩ := bb); clear h51 h52 h53 h54 h55 h56 h57)
        | (go_at_call 29; refine (HF.out _ (by first | exact HB5.out | exact HA2.out _ _ HB5.out)).mono ?_; rintro e w6 ⟨v6, os, rfl, h61, h62, h63, h64⟩; obtain ⟨a6, c6, hv6, -⟩ := h61.xs; subst hv6; have H6 := Lib.hid (And.intro h62 h63); have HO6 := Lib.hid h61; have HB6 := Lib.hid h64; have z6 : w.heap.size + 2 ≤ w6.heap.size := Nat.le_trans z5 (Nat.le_trans (by simp) h64.size); have hS := (h64.cell (p := ⟨w.heap.size, 1, none⟩) (World.block_lt_of_cell? _ _ ‹_›)).trans ‹_›; first | (have cc := Box.below (Box.new _) h64; obtain ⟨c0, c1, c2, c3⟩ := cc) | (have cc := Box.below ⟨b0, b1, b2, b3⟩ h64; obtain ⟨c0, c1, c2, c3⟩ := cc) | skip; clear h61 h62 h63 h64))
    all_goals
      have HW5 := Lib.hid (HB4.out.trans ((Below.refl W2.heap.size W4).drew.trans HB5.out))
      have HL5 := Lib.hid (fun k (h : (Value.slice a5 bs.length c5).ownBlock = some k) => (World.ownsRow.lt HO5.out k h).2)
      have HL6 := Lib.hid (fun k (h : (Value.slice a6 os.length c6).ownBlock = some k) => (World.ownsRow.lt HO6.out k h).1)
      go_simp
      go_wp2_with fail
      go_meet
    · exact ⟨w6.heap.size, _, _, bs, os, rfl, Lib.hid (OrdSt.new (HO5.out.below HB6.out) (HO6.out.mono HW5.out.size) (fun k h6 h5 => absurd (HL5.out k h5) (Nat.not_lt.2 (HL6.out k h6))) (HW5.out.trans (HB6.out.mono HW5.out.size))), H5, H6⟩
    · exact ⟨w5.heap.size, _, _, bs, os, rfl, Lib.hid (OrdSt.put HW5.out.size ⟨c0, c1, c2, c3⟩ ((HO5.out.alloc _).below HB6.out) (HO6.out.mono (by have := HW5.out.size; simp; omega)) (fun h => absurd (HL5.out _ h) (Nat.lt_irrefl _)) (fun h => absurd (HL6.out _ h) (by simp)) (fun k h6 h5 => by have h7 := HL5.out k h5; have h8 := HL6.out k h6; simp at h8; omega) ((HW5.out.alloc HW5.out.size _).trans (HB6.out.mono (by have := HW5.out.size; simp; omega)))), H5, H6⟩
    · exact ⟨W4.heap.size, _, _, bs, os, rfl, Lib.hid (OrdSt.put hs24 ⟨c0, c1, c2, c3⟩ (HO5.out.below HB6.out) (HO6.out.mono HW5.out.size) (fun h => absurd (HLT.out _ (HN5.out ▸ h)) (Nat.lt_irrefl _)) (fun h => absurd (HL6.out _ h) (by have h9 := HG5.out.size; simp at h9; omega)) (fun k h6 h5 => absurd (HL5.out k h5) (Nat.not_lt.2 (HL6.out k h6))) (HW5.out.trans (HB6.out.mono HW5.out.size))), H5, H6⟩
  case rest =>
    obtain ⟨g, v5, v6, bs, os, rfl, HS, H5, H6⟩ := hcut
    clear hr1 hb4
    have hc1 := HS.out.c1
    obtain ⟨a6, c6, hv6, hc6, -⟩ := HS.out.own6.xs
    subst hv6
    go_wp2_with fail
    have hol : os.length ≤ 10000 := Nat.le_trans (by rw [H6.out.1.length_eq]; exact firstsX_len xs) hl.2
    have HOS := Lib.hid (fun x (hx : x ∈ os) => firstsX_sub xs x (H6.out.1.mem_iff.1 hx))
    clear hc1
    go_loopg [21] os.length (fun gk v21 wr => ∃ k, k ≤ os.length ∧ gk = os.length - k ∧ v21 = .int .i64 (k : Nat) ∧ Hid (OrdSt W2 wr g v5 (.slice a6 os.length c6) bs (upd os k)))
    case atStart => exact ⟨0, Nat.zero_le _, by omega, rfl, Lib.hid (by simpa [upd] using HS.out)⟩
    case round =>
      obtain ⟨k, hk, hgk, rfl, HST⟩ := hrel
      rcases Nat.lt_or_ge k os.length with hlt | hge
      · obtain ⟨b6, hab, hbb, hc1, hc2, hf2⟩ := HST.out.own6.at k (by rw [upd_len]; exact hlt)
        rw [upd_at os k hlt] at hc1 hc2
        have HBB := Lib.hid hbb
        have hin : (k : Int) < os.length := by omega
        have HIN := HOS.out _ (List.getElem_mem hlt)
        have hzx := (HZ.out _ HIN).2
        have HOK := Lib.hid (((HO.out _ HIN).below HB2.out).2.below ((HST.out.b.mono (Nat.le_refl _))))
        have HUB := Lib.hid (upd_bare os k hlt)
        have HUS := Lib.hid (upd_same os k hlt)
        have HPL : Hid (plainX os[k] = if os[k].subs = [⟨#[116, 114, 117, 101]⟩] then bareX os[k] else os[k]) := Lib.hid rfl
        have HUA := Lib.hid (upd_at os k hlt)
        obtain ⟨x, hx⟩ : ∃ x, os[k] = x := ⟨_, rfl⟩
        rw [hx] at hc1 hc2 hzx HOK HUB HUS HPL HUA
        clear hx HIN hbb
        have hcg := HST.out.c1
        go_wp2_with fail
        obtain ⟨WE, hWE⟩ : ∃ WE, (wr.alloc (.cells #[.string x.key, .slice x.sub x.subs.length x.cap] 37)).alloc (.cells #[.string ⟨#[116, 114, 117, 101]⟩] 9) = WE := ⟨_, rfl⟩
        have hbE : Below wr.heap.size wr WE := by rw [← hWE]; exact ((Below.refl _ _).alloc (Nat.le_refl _) _).alloc (by simp) _
        have hcT : WE.cell? ⟨wr.heap.size + 1, 0, none⟩ = some (.string ⟨#[116, 114, 117, 101]⟩) := by rw [← hWE]; simp
        rw [hWE]
        clear hWE
        have HBE := Lib.hid hbE
        refine (equal_any x.sub (some ⟨wr.heap.size + 1, 0, none⟩) x.cap 1 x.subs [⟨#[116, 114, 117, 101]⟩] WE hzx (by simp) (HOK.out.below hbE) (fun i hi => by
          have h0 : i = 0 := by simpa using hi
          subst h0
          exact ⟨_, 0, rfl, hcT⟩)).mono ?_
        rintro e W6 ⟨rfl, q, hW6⟩
        have hb6 : Below wr.heap.size wr W6 := by rw [hW6]; exact below_drewN hbE q
        have HST6 := Lib.hid (HST.out.later hb6)
        have hcg6 := HST6.out.c1
        obtain ⟨b7, hab7, hbb7, hd1, hd2, hdf⟩ := HST6.out.own6.at k (by rw [upd_len]; exact hlt)
        obtain rfl : b7 = b6 := by rw [hab] at hab7; cases hab7; rfl
        rw [HUA.out] at hd1 hd2
        clear hbE hcT hW6 hab7 hbb7 hc1 hc2 hf2 hcg hb6 hd1
        rcases Classical.em (x.subs = [⟨#[116, 114, 117, 101]⟩]) with ht | ht
        · have hP : plainX x = bareX x := by rw [HPL.out, if_pos ht]
          have HU := Lib.hid (HUB.out hP)
          have HKL := Lib.hid (show k < (upd os k).length by rw [upd_len]; exact hlt)
          rw [decide_eq_true ht]
          clear ht hP
          go_wp2_with fail
          have HS7 := Lib.hid (show OrdSt W2 (W6.setCell ⟨b7, k * 2 + 1, none⟩ (.slice none 0 0)) g v5 (.slice a6 os.length c6) bs (upd os (k + 1)) by
            have h := HST6.out
            rw [hab] at h ⊢
            have h2 := h.bare HBB.out k HKL.out
            rw [HUA.out, HU.out] at h2
            exact h2)
          rw [← hab]
          go_roundg (os.length - (k + 1))
          case measure => omega
          case rel => exact ⟨k + 1, hlt, rfl, by go_num, HS7⟩
        · have hP : plainX x = x := by rw [HPL.out, if_neg ht]
          have HU := Lib.hid (HUS.out hP)
          rw [decide_eq_false ht]
          clear ht hP
          go_wp2_with fail
          have HS7 := Lib.hid (show OrdSt W2 W6 g v5 (.slice a6 os.length c6) bs (upd os (k + 1)) by rw [← HU.out]; exact HST6.out)
          rw [← hab]
          go_roundg (os.length - (k + 1))
          case measure => omega
          case rel => exact ⟨k + 1, hlt, rfl, by go_num, HS7⟩
      · obtain rfl : k = os.length := by omega
        have hlast : upd os os.length = os.map plainX := by simp [upd]
        rw [hlast] at HST
        have h0 := HST.out.c0
        have h1 := HST.out.c1
        have hbw := HB2.out.trans (HST.out.b.mono (by rw [HZ2.out]; omega))
        have HG2 := HG.out
        have j0 := (HST.out.b.cell (p := ⟨w.heap.size + 1, 0, none⟩) (by rw [HZ2.out]; show w.heap.size + 1 < _; omega)).trans HG2.2.1
        have j1 := (HST.out.b.cell (p := ⟨w.heap.size + 1, 1, none⟩) (by rw [HZ2.out]; show w.heap.size + 1 < _; omega)).trans HG2.2.2.1
        have f0 := (HST.out.b.frozen (p := ⟨w.heap.size + 1, 0, none⟩) (by rw [HZ2.out]; show w.heap.size + 1 < _; omega)).trans (HG2.2.2.2 0)
        have f1 := (HST.out.b.frozen (p := ⟨w.heap.size + 1, 1, none⟩) (by rw [HZ2.out]; show w.heap.size + 1 < _; omega)).trans (HG2.2.2.2 1)
        have HBW := Lib.hid hbw
        obtain ⟨a5, c5, hv5, -⟩ := HST.out.own5.strs
        subst hv5
        clear hlast HG2 hbw hgk hk
        go_wp2_with fail
        have hz2 := HZ2.out
        refine bodyPost_ret (v := .agg #[.slice a5 bs.length c5, .slice a6 os.length c6]) ?_ rfl ⟨_, _, bs, os, rfl, ?_, ?_, H5.out.1, fun s => (H5.out.2.1 s).trans HP.out.mem_iff, by rw [← HP.out.length_eq]; exact H5.out.2.2, H6.out.1, H6.out.2, ?_⟩
        · simp [results, Try.f18, go_sem, j0, j1]
        · exact OwnS.mono (ownsRow_setCell_below (ownsRow_setCell_below HST.out.own5 (a := ⟨w.heap.size + 1, 0, none⟩) (by show w.heap.size + 1 < _; omega) _) (a := ⟨w.heap.size + 1, 1, none⟩) (by show w.heap.size + 1 < _; omega) _) (by omega)
        · exact OwnX.mono (ownsRow_setCell_below (ownsRow_setCell_below HST.out.own6 (a := ⟨w.heap.size + 1, 0, none⟩) (by show w.heap.size + 1 < _; omega) _) (a := ⟨w.heap.size + 1, 1, none⟩) (by show w.heap.size + 1 < _; omega) _) (by omega)
        · exact (HBW.out.setCell (p := ⟨w.heap.size + 1, 0, none⟩) (Nat.le_succ _) _).setCell (p := ⟨w.heap.size + 1, 1, none⟩) (Nat.le_succ _) _

end Go.Proofs.Ytimcjkkbooinbaa
