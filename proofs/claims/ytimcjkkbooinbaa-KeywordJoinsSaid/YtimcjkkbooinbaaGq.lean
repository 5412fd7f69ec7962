/- awake: the chapter's example. -/
import Derived.Test.YtimcjkkbooinbaaGp
namespace Go.Proofs.Ytimcjkkbooinbaa
open Go.RowKit Go.Shelf

def bFoo : ByteArray := ⟨#[102, 111, 111]⟩
def bCo : ByteArray := ⟨#[99, 111]⟩
def bTrue : ByteArray := ⟨#[116, 114, 117, 101]⟩
def bBar : ByteArray := ⟨#[98, 97, 114]⟩
def bCa : ByteArray := ⟨#[99, 97]⟩
def bBud : ByteArray := ⟨#[98, 117, 100, 100, 104, 105, 115, 116]⟩
def bPho : ByteArray := ⟨#[112, 104, 111, 110, 101, 98, 107]⟩

def awakeIn : List ByteArray := [bFoo, bCo, bTrue, bBar, bCa, bBud, bCo, bPho]
def awakeOut : List ByteArray := [bFoo, bCa, bBud, bCo, bTrue, bBar]

theorem awake_a : readA awakeIn = [bFoo] := by kernel_rfl
theorem awake_e : readE awakeIn = [(bCo, [bTrue, bBar]), (bCa, [bBud]), (bCo, [bPho])] := by kernel_rfl

theorem awake_law {xs os : List XE} {bs : List ByteArray} (hx : xs.map XE.val = readE awakeIn) (hp : os.Perm (firstsX xs)) (hs : SortedX os) (hr : RisingS bs) (hm : ∀ s, s ∈ bs ↔ s ∈ readA awakeIn) (hl : bs.length ≤ (readA awakeIn).length) :
    writeL bs ((os.map plainX).map XE.val) = awakeOut := by
  rw [awake_e] at hx
  rw [awake_a] at hm hl
  have hbs : bs = [bFoo] := by
    cases bs with
    | nil => have := (hm bFoo).2 (by simp); cases this
    | cons b t =>
      have ht : t = [] := by simpa using hl
      subst ht
      rw [List.mem_singleton.1 ((hm b).1 (by simp))]
  subst hbs
  obtain ⟨x1, t1, rfl, h1, hx⟩ := List.map_eq_cons_iff.1 hx
  obtain ⟨x2, t2, rfl, h2, hx⟩ := List.map_eq_cons_iff.1 hx
  obtain ⟨x3, t3, rfl, h3, hx⟩ := List.map_eq_cons_iff.1 hx
  obtain rfl := List.map_eq_nil_iff.1 hx
  · 
    have k1 : x1.key = bCo := congrArg Prod.fst h1
    have s1 : x1.subs = [bTrue, bBar] := congrArg Prod.snd h1
    have k2 : x2.key = bCa := congrArg Prod.fst h2
    have s2 : x2.subs = [bBud] := congrArg Prod.snd h2
    have k3 : x3.key = bCo := congrArg Prod.fst h3
    have hne : bCa ≠ bCo := by decide
    have hf : firstsX [x1, x2, x3] = [x1, x2] := by
      have q1 : addX [] x1 = [x1] := addX_no (by simp)
      have q2 : addX [x1] x2 = [x1, x2] := addX_no (by simp [k1, k2, hne])
      have q3 : addX [x1, x2] x3 = [x1, x2] := addX_yes (by simp [k1, k3])
      unfold firstsX
      rw [List.foldl_cons, q1, List.foldl_cons, q2, List.foldl_cons, q3, List.foldl_nil]
    rw [hf] at hp
    have hos : os = [x2, x1] := by
      have hlen := hp.length_eq
      match os, hlen with
      | [y1, y2], _ =>
        have m1 : y1 = x1 ∨ y1 = x2 := by have := hp.mem_iff.1 (List.mem_cons_self (a := y1)); simpa using this
        rcases m1 with rfl | rfl
        · have hp2 := List.Perm.cons_inv hp
          have e2 : y2 = x2 := by have := hp2.mem_iff.1 (List.mem_cons_self (a := y2)); simpa using this
          subst e2
          have := hs 0 1 (by simp) (by simp)
          simp only [List.getElem_cons_zero, List.getElem_cons_succ] at this
          rw [k1, k2] at this
          rw [ByteArray.toList_eq, ByteArray.toList_eq] at this
          exact absurd this (by decide)
        · have hp2 := List.Perm.cons_inv (hp.trans (List.Perm.swap _ _ _))
          have e2 : y2 = x1 := by have := hp2.mem_iff.1 (List.mem_cons_self (a := y2)); simpa using this
          rw [e2]
    subst hos
    have p1 : plainX x1 = x1 := by unfold plainX; rw [if_neg (by rw [s1]; decide)]
    have p2 : plainX x2 = x2 := by unfold plainX; rw [if_neg (by rw [s2]; decide)]
    simp only [List.map_cons, List.map_nil, p1, p2, h1, h2]
    rfl

theorem row_strs {W : World} {g : Nat} {xs : List ByteArray} (h : W.heap[g]? = some (.cells (xs.map Value.string).toArray 9 (0, 0))) : StrsAt W (some ⟨g, 0, none⟩) xs := by
  intro i hi
  refine ⟨g, 0, rfl, ?_⟩
  simp [World.cell?, h, hi]

/-- What Order hands back, as keywords. -/
theorem order_kw {W : World} {b b' : Nat} {v1 v2 : Value} {bs : List ByteArray} {os xs : List XE} (h1 : OwnS W b v1 bs) (h2 : OwnX W b' v2 (os.map plainX)) (hsub : ∀ x ∈ os, x ∈ xs) (hok : ∀ x ∈ xs, x.ok W) : KwAt W (.agg #[v1, v2]) bs (os.map plainX) := by
  have hc1 := h1.cap
  obtain ⟨a1, c1, rfl, hs1⟩ := h1.strs
  obtain ⟨a2, c2, rfl, hc2, hs2⟩ := h2.xs
  refine ⟨a1, c1, a2, c2, rfl, hc1 _ _ _ rfl, hc2, hs1, hs2, ?_⟩
  intro y hy
  obtain ⟨x, hx, rfl⟩ := List.mem_map.1 hy
  unfold plainX
  split
  · exact ⟨Nat.zero_le _, fun i hi => absurd hi (by simp [bareX])⟩
  · exact hok x (hsub x hx)

theorem awake_small {xs : List XE} (hx : xs.map XE.val = readE awakeIn) : xs.length ≤ 10000 ∧ ∀ x ∈ xs, x.key.size ≤ 100000 ∧ x.subs.length ≤ 1000000 := by
  rw [awake_e] at hx
  constructor
  · have := congrArg List.length hx
    simp at this
    omega
  · intro x hm
    have h := List.mem_map_of_mem (f := XE.val) hm
    rw [hx] at h
    have hall : ∀ e ∈ [(bCo, [bTrue, bBar]), (bCa, [bBud]), (bCo, [bPho])], e.1.size ≤ 100000 ∧ e.2.length ≤ 1000000 := by decide
    exact hall _ h

set_option maxHeartbeats 2000000 in
set_option maxRecDepth 100000 in
theorem awake_any (w : World) : Calls Try.prog 9 #[] w fun e w' => e = .returned (.bool true) ∧ Below w.heap.size w w' := by
  go_enter Try.func9, Try.ntmps9
  go_wp2_with fail
  have hs1 : StrsAt (w.alloc (.cells (awakeIn.map Value.string).toArray 9)) (some ⟨w.heap.size, 0, none⟩) awakeIn := row_strs (heap_alloc_new w _)
  have hb1 : Below w.heap.size w (w.alloc (.cells (awakeIn.map Value.string).toArray 9)) := (Below.refl _ _).alloc (Nat.le_refl _) _
  change Calls Try.prog _ _ (w.alloc (.cells (awakeIn.map Value.string).toArray 9)) _
  generalize w.alloc (.cells (awakeIn.map Value.string).toArray 9) = W1 at hs1 hb1 ⊢
  refine (read_any (some ⟨w.heap.size, 0, none⟩) 8 awakeIn W1 (by decide) (by decide) hs1).mono ?_
  rintro e W2 ⟨v2, xs, rfl, hk, hx, hb2⟩
  obtain ⟨hl, hz⟩ := awake_small hx
  have HX := Lib.hid hx
  have HK := Lib.hid hk
  have HB2 := Lib.hid (hb1.trans (hb2.mono hb1.size))
  have HZ := Lib.hid hz
  have HL := Lib.hid hl
  clear hs1 hb1 hb2 hk hx hz hl
  go_wp2_with fail
  refine (order_any v2 (readA awakeIn) xs W2 HK.out ⟨by rw [awake_a]; decide, HL.out⟩ HZ.out).mono ?_
  rintro e W3 ⟨v31, v32, bs, os, rfl, h1, h2, h3, h4, h5, h6, h7, h8⟩
  have hkw := order_kw h1 h2 (fun x hx => firstsX_sub xs x (h6.mem_iff.1 hx)) (fun x hx => by
    obtain ⟨_, _, _, _, _, _, _, _, _, hok⟩ := HK.out
    exact (hok x hx).below h8)
  have HLAW := Lib.hid (awake_law HX.out h6 h7 h3 h4 h5)
  have HB3 := Lib.hid (HB2.out.trans (h8.mono HB2.out.size))
  have hll : (os.map plainX).length ≤ 100000 := by
    rw [List.length_map, h6.length_eq]
    have := firstsX_len xs
    have := HL.out
    omega
  obtain ⟨a1, c1, a2, c2, e12, -⟩ := hkw
  obtain ⟨rfl, rfl⟩ : v31 = _ ∧ v32 = _ := by simpa using e12
  have hkw := order_kw h1 h2 (fun x hx => firstsX_sub xs x (h6.mem_iff.1 hx)) (fun x hx => by
    obtain ⟨_, _, _, _, _, _, _, _, _, hok⟩ := HK.out
    exact (hok x hx).below h8)
  clear e12 h1 h2 h3 h4 h5 h6 h7 h8
  have HKW := Lib.hid hkw
  have HLL := Lib.hid hll
  clear hkw hll
  generalize os.map plainX = us at HLAW HKW HLL ⊢
  go_wp2_with fail
  have hb4 : Below W3.heap.size W3 (W3.alloc (.cells #[.slice a1 bs.length c1, .slice a2 os.length c2] 25)) := (Below.refl _ _).alloc (Nat.le_refl _) _
  generalize W3.alloc (.cells #[.slice a1 bs.length c1, .slice a2 os.length c2] 25) = W4 at hb4 ⊢
  have HB4 := Lib.hid (HB3.out.trans (hb4.mono HB3.out.size))
  have HK4 := Lib.hid (HKW.out.below hb4)
  clear hb4
  refine (write_any _ bs us W4 HK4.out (by rw [HLAW.out]; decide) HLL.out).mono ?_
  rintro e W5 ⟨v5, rfl, hown5, hb5⟩
  rw [HLAW.out] at hown5
  obtain ⟨a5, c5, rfl, hs5⟩ := hown5.strs
  have HS5 := Lib.hid hs5
  have HB5 := Lib.hid (HB4.out.trans (hb5.mono HB4.out.size))
  clear hown5 hs5 hb5
  go_wp2_with fail
  have hs6 : StrsAt (W5.alloc (.cells (awakeOut.map Value.string).toArray 9)) (some ⟨W5.heap.size, 0, none⟩) awakeOut := row_strs (heap_alloc_new W5 _)
  have hb6 : Below W5.heap.size W5 (W5.alloc (.cells (awakeOut.map Value.string).toArray 9)) := (Below.refl _ _).alloc (Nat.le_refl _) _
  have hs5 := HS5.out.below hb6
  have HB6 := Lib.hid (HB5.out.trans (hb6.mono HB5.out.size))
  change Calls Try.prog _ _ (W5.alloc (.cells (awakeOut.map Value.string).toArray 9)) _
  generalize W5.alloc (.cells (awakeOut.map Value.string).toArray 9) = W6 at hs6 hs5 HB6 ⊢
  clear hb6
  refine (same4_any a5 (some ⟨W5.heap.size, 0, none⟩) c5 6 awakeOut awakeOut W6 (by decide) (by decide) hs5 hs6).mono ?_
  rintro e W7 ⟨rfl, q, rfl⟩
  rw [decide_eq_true rfl]
  clear hs5 hs6
  go_wp2_with fail
  go_ret
  exact ⟨rfl, below_drewN HB6.out q⟩

end Go.Proofs.Ytimcjkkbooinbaa
