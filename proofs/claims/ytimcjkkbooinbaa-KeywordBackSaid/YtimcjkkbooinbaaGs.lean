/- KeywordBack, walked. -/
import Derived.Test.YtimcjkkbooinbaaGr
import Derived.Deep.RegionHeld3
namespace Go.Proofs.Ytimcjkkbooinbaa
open Go.RowKit Go.Shelf

set_option maxHeartbeats 600000 in
set_option maxRecDepth 100000 in
theorem back_any (a : Option Addr) (cap : Nat) (l : List ByteArray) (w : World) (hl : l.length ≤ 9223372036854775807) (hz : ∀ x ∈ l, x.size ≤ maxLen) (h : StrsAt w a l) :
    Calls Try.prog 4 #[.slice a l.length cap] w fun e w' => e = .returned (.bool true) ∧ Below w.heap.size w w' := by
  have HS := Lib.hid h
  have HZ := Lib.hid hz
  clear h hz
  go_enter Try.func4, Try.ntmps4
  go_wp2_with fail
  refine (awake_any w).mono ?_
  rintro e W1 ⟨rfl, hb1⟩
  have HB1 := Lib.hid hb1
  have hs1 := HS.out.below hb1
  have HS1 := Lib.hid hs1
  clear hb1 hs1
  go_wp2_with fail
  refine (few_any a cap l W1 10 (by omega) hl HZ.out HS1.out).mono ?_
  rintro e W2 ⟨v2, rfl, hown2, hb2⟩
  obtain ⟨hfl, hfz⟩ := few_small l 10
  generalize fewL (l.take 10) = ls at hown2 hfl hfz
  have HB2 := Lib.hid (HB1.out.trans (hb2.mono HB1.out.size))
  obtain ⟨a2, c2, rfl, hs2⟩ := hown2.strs
  have HS2 := Lib.hid hs2
  have HFZ := Lib.hid hfz
  clear hown2 hb2 hs2 hfz
  go_wp2_with fail
  refine (read_any a2 c2 ls W2 (by omega) (fun x hx => Nat.le_trans (HFZ.out x hx) (by omega)) HS2.out).mono ?_
  rintro e W3 ⟨v3, xs, rfl, hk3, hx3, hb3⟩
  obtain ⟨hxl, hxz⟩ := read_small 10 9 hx3 hfl HFZ.out
  have HX := Lib.hid hx3
  have HXZ := Lib.hid hxz
  have HXL := Lib.hid hxl
  have HB3 := Lib.hid (HB2.out.trans (hb3.mono HB2.out.size))
  have HS3 := Lib.hid (HS2.out.below hb3)
  have HK3 := Lib.hid hk3
  obtain ⟨aA, cA, aK, cK, rfl, -⟩ := hk3
  clear hx3 hxz hxl hb3
  go_wp2_with fail
  have hb4 : Below W3.heap.size W3 (W3.alloc (.cells #[.slice aA (readA ls).length cA, .slice aK xs.length cK] 25)) := (Below.refl _ _).alloc (Nat.le_refl _) _
  have d0 : (W3.alloc (.cells #[.slice aA (readA ls).length cA, .slice aK xs.length cK] 25)).cell? ⟨W3.heap.size, 0, none⟩ = some (.slice aA (readA ls).length cA) := World.cell?_alloc_new _ _ _ 0
  have d1 : (W3.alloc (.cells #[.slice aA (readA ls).length cA, .slice aK xs.length cK] 25)).cell? ⟨W3.heap.size, 1, none⟩ = some (.slice aK xs.length cK) := World.cell?_alloc_new _ _ _ 1
  generalize W3.alloc (.cells #[.slice aA (readA ls).length cA, .slice aK xs.length cK] 25) = W4 at hb4 d0 d1 ⊢
  have HB4 := Lib.hid (HB3.out.trans (hb4.mono HB3.out.size))
  have HK4 := Lib.hid (HK3.out.below hb4)
  have HS4 := Lib.hid (HS3.out.below hb4)
  have hlt3 : W3.heap.size < W4.heap.size := World.block_lt_of_cell? _ _ d0
  have HLW := Lib.hid (show writeL (readA ls) (xs.map XE.val) = ls.map lowB by rw [HX.out]; exact writeL_read ls)
  clear hb4
  refine (write_any _ (readA ls) xs W4 HK4.out (by rw [HLW.out]; simp; omega) (by have := HXL.out; omega)).mono ?_
  rintro e W5 ⟨v5, rfl, hown5, hb5⟩
  rw [HLW.out] at hown5
  obtain ⟨ws, hws⟩ : ∃ ws, ls.map lowB = ws := ⟨_, rfl⟩
  rw [hws] at hown5
  have hwl : ws.length = ls.length := by rw [← hws]; simp
  obtain ⟨a5, c5, rfl, hs5⟩ := hown5.strs
  have HWS := Lib.hid hws
  have HS5 := Lib.hid hs5
  have HB45 := Lib.hid hb5
  have HB5 := Lib.hid (HB4.out.trans (hb5.mono HB4.out.size))
  have HSL := Lib.hid (HS4.out.below hb5)
  have k0 := (hb5.cell (p := ⟨W3.heap.size, 0, none⟩) hlt3).trans d0
  have k1 := (hb5.cell (p := ⟨W3.heap.size, 1, none⟩) hlt3).trans d1
  rw [hwl]
  clear hws hs5 hb5 hown5 d0 d1
  go_wp2_with fail
  go_loopg [6] ls.length (fun gk v6 wr => ∃ k, k ≤ ls.length ∧ gk = ls.length - k ∧ v6 = .int .i64 (k : Nat) ∧ Hid (Below W5.heap.size W5 wr))
  case atStart => exact ⟨0, Nat.zero_le _, by omega, rfl, Lib.hid (Below.refl _ _)⟩
  case round =>
    obtain ⟨k, hk, hgk, rfl, HB⟩ := hrel
    rcases Nat.lt_or_ge k ls.length with hlt | hge
    · obtain ⟨b0, o0, hab0, hc0⟩ := (HSL.out.below HB.out) k hlt
      obtain ⟨b5, o5, hab5, hc5⟩ := (HS5.out.below HB.out) k (by omega)
      have hin : (k : Int) < ls.length := by omega
      have HX9 := HFZ.out _ (List.getElem_mem hlt)
      have hwk : ws[k]'(by omega) = lowB ls[k] := by simp [← HWS.out]
      rw [hwk] at hc5
      generalize ls[k] = x at hc0 hc5 HX9
      clear hwk
      have HLOW := Lib.hid (fun (W : World) => refLower_any x W (by omega))
      generalize lowB x = y at hc5 HLOW
      have HCL := Lib.hid (fun (W W' : World) (hb : Below W.heap.size W W') (h : W.cell? ⟨b0, o0 + k, none⟩ = some (.string x) ∧ W.cell? ⟨b5, o5 + k, none⟩ = some (.string y)) => (show W'.cell? ⟨b0, o0 + k, none⟩ = some (.string x) ∧ W'.cell? ⟨b5, o5 + k, none⟩ = some (.string y) from ⟨(hb.cell (World.block_lt_of_cell? _ _ h.1)).trans h.1, (hb.cell (World.block_lt_of_cell? _ _ h.2)).trans h.2⟩))
      go_wp2_with fail
      go_region_held3 (fun w' => w'.cell? ⟨b0, o0 + k, none⟩ = some (.string x) ∧ w'.cell? ⟨b5, o5 + k, none⟩ = some (.string y))
        (first | (constructor <;> assumption) | go_keep)
        (first
          | (go_at_call 20; refine (HLOW.out _).mono ?_; rintro e w6 ⟨rfl, hb6⟩; obtain ⟨j0, j1⟩ := HCL.out _ _ hb6 (by assumption); have HB6 := Lib.hid hb6; clear hb6)
          | fail)
      have HBN := Lib.hid (HB.out.trans (((Below.refl W5.heap.size wr).drew).trans (HB6.out.mono HB.out.size)))
      go_simp
      go_wp2_with fail
      rw [← hab0, ← hab5]
      go_roundg (ls.length - (k + 1))
      case measure => omega
      case rel => exact ⟨k + 1, hlt, rfl, by go_num, HBN⟩
    · obtain rfl : k = ls.length := by omega
      have q0 := (HB.out.cell (p := ⟨W3.heap.size, 0, none⟩) (World.block_lt_of_cell? _ _ k0)).trans k0
      have q1 := (HB.out.cell (p := ⟨W3.heap.size, 1, none⟩) (World.block_lt_of_cell? _ _ k1)).trans k1
      have hws10 : ws.length ≤ 10 := by omega
      have hwz : ∀ s ∈ ws, s.size ≤ 9 := by
        intro s hs
        rw [← HWS.out] at hs
        obtain ⟨t, ht, rfl⟩ := List.mem_map.1 hs
        rw [lowB_size]
        exact HFZ.out t ht
      have hrd := read_any a5 c5 ws wr.drew (by omega) (fun s hs => Nat.le_trans (hwz s hs) (by omega)) (HS5.out.below (HB.out.drew))
      rw [hwl] at hrd
      have HRD := Lib.hid hrd
      clear hrd
      have HRA := Lib.hid (show readA ws = readA ls by rw [← HWS.out]; exact readA_low ls)
      have HRE := Lib.hid (show readE ws = readE ls by rw [← HWS.out]; exact readE_low ls)
      have HWZ := Lib.hid hwz
      have hla : (readA ls).length ≤ 10 := Nat.le_trans (readA_len ls) hfl
      have HCL := Lib.hid (fun (W W' : World) (hb : Below W.heap.size W W') (h : W.cell? ⟨W3.heap.size, 0, none⟩ = some (.slice aA (readA ls).length cA) ∧ W.cell? ⟨W3.heap.size, 1, none⟩ = some (.slice aK xs.length cK)) => (show W'.cell? ⟨W3.heap.size, 0, none⟩ = some (.slice aA (readA ls).length cA) ∧ W'.cell? ⟨W3.heap.size, 1, none⟩ = some (.slice aK xs.length cK) from ⟨(hb.cell (World.block_lt_of_cell? _ _ h.1)).trans h.1, (hb.cell (World.block_lt_of_cell? _ _ h.2)).trans h.2⟩))
      have HBR := Lib.hid (fun (W : World) (hb : Below wr.drew.heap.size wr.drew W) => HB5.out.trans ((HB.out.trans (((Below.refl W5.heap.size wr).drew).trans (hb.mono HB.out.size))).mono HB5.out.size))
      have HK5 := Lib.hid (fun (W : World) (hb : Below wr.drew.heap.size wr.drew W) => HK4.out.below (HB45.out.trans ((HB.out.trans (((Below.refl W5.heap.size wr).drew).trans (hb.mono HB.out.size))).mono HB45.out.size)))
      clear k0 k1 hwz hgk hk
      go_wp2_with fail
      go_region_held3 (fun w' => w'.cell? ⟨W3.heap.size, 0, none⟩ = some (.slice aA (readA ls).length cA) ∧ w'.cell? ⟨W3.heap.size, 1, none⟩ = some (.slice aK xs.length cK))
        (first | (constructor <;> assumption) | go_keep)
        (first
          | (go_at_call 13; refine HRD.out.mono ?_; rintro e w7 ⟨v7, zs, rfl, hk7, hz7, hb7⟩; obtain ⟨j0, j1⟩ := HCL.out _ _ hb7 (by assumption); have HK7 := Lib.hid hk7; have HB7 := Lib.hid hb7; have HZ7 := Lib.hid hz7; clear hk7 hb7 hz7)
          | (go_at_call 12; refine (sameK_any _ _ (readA ws) (readA ls) zs xs _ HK7.out (HK5.out _ HB7.out) (by have h1 := read_small 10 9 HZ7.out hws10 HWZ.out; rw [HRA.out]; have := HXL.out; exact ⟨by omega, by omega, by omega, by omega⟩) (fun x hx => by have h1 := (read_small 10 9 HZ7.out hws10 HWZ.out).2 x hx; omega) (fun x hx => by have h1 := HXZ.out x hx; omega)).mono ?_; rintro e w8 ⟨rfl, hb8⟩; rw [decide_eq_true (show readA ws = readA ls ∧ zs.map XE.val = xs.map XE.val from ⟨HRA.out, by rw [HZ7.out, HX.out, HRE.out]⟩)]; obtain ⟨i0, i1⟩ := HCL.out _ _ hb8 (by assumption); have HB8 := Lib.hid (HBR.out _ (HB7.out.trans (hb8.mono HB7.out.size))); clear hb8))
      go_simp
      go_wp2_with fail
      go_ret
      exact ⟨rfl, HB8.out⟩

end Go.Proofs.Ytimcjkkbooinbaa
