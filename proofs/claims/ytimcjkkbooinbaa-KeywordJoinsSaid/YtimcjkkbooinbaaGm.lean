/- The first of each key, put in order: walked. -/
import Derived.Test.YtimcjkkbooinbaaGl
namespace Go.Proofs.Ytimcjkkbooinbaa
open Go.RowKit Go.Shelf Go.Maps

theorem cell_far {w w' : World} {row : Option Nat} (hg : w.grownBy w' row) (a : Addr) (hlt : a.block < w.heap.size) (hne : some a.block ≠ row) : w'.cell? a = w.cell? a := by
  unfold World.cell?; rw [hg.block a.block hlt hne]

set_option maxHeartbeats 2000000 in
set_option maxRecDepth 100000 in
theorem first_any (a : Option Addr) (cap : Nat) (l : List XE) (w : World) (hl : l.length ≤ 10000) (hz : ∀ x ∈ l, x.key.size ≤ 100000) (h : XsAt w a l) :
    Calls Try.prog 29 #[.slice a l.length cap] w fun e w' => ∃ v os, e = .returned v ∧ OwnX w' w.heap.size v os ∧ os.Perm (firstsX l) ∧ SortedX os ∧ Below w.heap.size w w' := by
  have HS := Lib.hid h
  have HZ := Lib.hid hz
  clear h hz
  have hmm := @run_makeMap Try.prog
  go_enter Try.func29, Try.ntmps29
  go_wp2_with fail
  have HM0 := Lib.hid (World.ownsMap_made w Try.prog 9 (plainElem (H := Unit) Try.prog 4))
  have HB0 := Lib.hid ((Below.refl w.heap.size w).alloc (Nat.le_refl _) (.map #[] 0))
  have hsz0 : w.heap.size < (w.alloc (.map #[] 0)).heap.size := by simp
  generalize w.alloc (.map #[] 0) = W0 at HM0 HB0 hsz0 ⊢
  go_loopg [4, 10] l.length (fun gk v4 v10 wr => ∃ k, k ≤ l.length ∧ gk = l.length - k ∧ v10 = .int .i64 (k : Nat) ∧ Hid (wr.ownsMap Try.prog 9 (plainElem Try.prog 4) w.heap.size k (seenD ((l.take k).map XE.key))) ∧ Hid (OwnX wr (w.heap.size + 1) v4 (firstsX (l.take k))) ∧ Hid (Below w.heap.size w wr) ∧ w.heap.size + 1 ≤ wr.heap.size)
  case atStart => exact ⟨0, Nat.zero_le _, by omega, rfl, HM0, Lib.hid (World.ownsRow_nil _ _ _ _), HB0, by omega⟩
  case round =>
    obtain ⟨k, hk, hgk, rfl, HM, HO, HB, hsz⟩ := hrel
    have HMAP := Lib.hid hmm
    clear hmm
    rcases Nat.lt_or_ge k l.length with hlt | hge
    · obtain ⟨b, off, hab, hc1, hc2⟩ := HS.out k hlt
      replace hc1 := (HB.out.cell (World.block_lt_of_cell? w _ hc1)).trans hc1
      replace hc2 := (HB.out.cell (World.block_lt_of_cell? w _ hc2)).trans hc2
      have hin : (k : Int) < l.length := by omega
      have hkey : keyOf Try.prog 9 (.string l[k].key) = some (keyLit l[k].key) := WideMaps.keyOf_string_mk (P := Try.prog) Try.underlying9 (s := l[k].key) (by have := HZ.out _ (List.getElem_mem hlt); unfold maxLen; omega)
      have htk : l.take (k + 1) = l.take k ++ [l[k]] := List.take_succ_eq_append_getElem hlt
      obtain ⟨x, hx⟩ : ∃ x, l[k] = x := ⟨_, rfl⟩
      rw [hx] at hc1 hc2 hkey htk
      have HTK := Lib.hid htk
      have HKEY := Lib.hid hkey
      have hn : k < maxLen := by unfold maxLen; omega
      have HV := Lib.hid (plainElem_bool (H := Unit) (P := Try.prog) (e := 4) Try.underlying4 true)
      have HAPP := Lib.hid (show firstsX (l.take k ++ [x]) = addX (firstsX (l.take k)) x from firstsX_snoc _ _)
      have HLEN := Lib.hid (Nat.le_trans (firstsX_len (l.take k)) (show (l.take k).length ≤ 10000 by simp; omega))
      have HSEEN := Lib.hid (show seenD ((l.take k ++ [x]).map XE.key) = (seenD ((l.take k).map XE.key)).put (keyLit x.key) (.lit (.bool true)) by rw [List.map_append]; exact seenD_snoc _ _)
      have HMEM := Lib.hid (firstsX_mem x.key (l.take k))
      generalize (l.take k).map XE.key = seen at HM HSEEN HMEM
      generalize l.take k ++ [x] = ltk1 at HTK HAPP HSEEN
      generalize hF : firstsX (l.take k) = F at HO HAPP HLEN HMEM
      clear hF hkey htk hx
      have hsz2 : (wr.alloc (.cells #[.string x.key, .slice x.sub x.subs.length x.cap] 37)).heap.size = wr.heap.size + 1 := by simp
      have e0 : (wr.alloc (.cells #[.string x.key, .slice x.sub x.subs.length x.cap] 37)).cell? ⟨wr.heap.size, 0, none⟩ = some (.string x.key) := World.cell?_alloc_new _ _ _ 0
      have e1 : (wr.alloc (.cells #[.string x.key, .slice x.sub x.subs.length x.cap] 37)).cell? ⟨wr.heap.size, 1, none⟩ = some (.slice x.sub x.subs.length x.cap) := World.cell?_alloc_new _ _ _ 1
      have HM2 := Lib.hid (HM.out.alloc (.cells #[.string x.key, .slice x.sub x.subs.length x.cap] 37))
      have HO2 := Lib.hid (HO.out.alloc (.cells #[.string x.key, .slice x.sub x.subs.length x.cap] 37))
      have HB2 := Lib.hid (HB.out.alloc (by omega) (.cells #[.string x.key, .slice x.sub x.subs.length x.cap] 37))
      rcases Classical.em (x.key ∈ seen) with hmem | hmem
      · have HC := Lib.hid (seen_yes hmem)
        have HEQ := Lib.hid (addX_yes (HMEM.out.2 hmem))
        go_wp2_with (first
          | (at_lookup; refine wpList_lookup_own_bool _ rfl _ _ 59 rfl 9 4 law9 Try.underlying59 Try.underlying4 (zero_bool _) w.heap.size k _ rfl HM2.out _ _ rfl HKEY.out _ HC.out ?_)
          | (at_mapUpdate; refine wpList_mapUpdate_own _ rfl _ _ _ 59 rfl 9 4 law9 Try.underlying59 _ w.heap.size k _ rfl HM2.out hn _ _ _ rfl rfl HKEY.out _ [] HV.out ?_; intro w1 hown1 hgrow1)
          | fail)
        have HM3 := Lib.hid (HSEEN.out.symm ▸ hown1)
        have HO3 := Lib.hid (World.ownsRow.kept HO2.out hgrow1 (.inr (fun h => by have := HO2.out.ge _ h; omega)))
        have HB3 := Lib.hid (HB2.out.grown hgrow1 HB2.out.size (fun j hj => by cases hj; exact Nat.le_refl _))
        have HS3 := Lib.hid (hgrow1.size)
        clear hown1 hgrow1
        rw [← hab]
        go_roundg (l.length - (k + 1))
        case measure => omega
        case rel => exact ⟨k + 1, hlt, rfl, by go_num, Lib.hid (by rw [HTK.out]; exact HM3.out), Lib.hid (by rw [HTK.out, HAPP.out, HEQ.out]; exact HO3.out), HB3, by have := HS3.out; omega⟩
      · have HC := Lib.hid (seen_no hmem)
        have HEQ := Lib.hid (addX_no (fun h => hmem (HMEM.out.1 h)))
        have HFAR := Lib.hid (show ∀ (w5 : World), ((wr.alloc (.cells #[.string x.key, .slice x.sub x.subs.length x.cap] 37)).alloc (.cells #[.string x.key, .slice x.sub x.subs.length x.cap] 37)).grownBy w5 u4.ownBlock →
            w5.cell? ⟨wr.heap.size, 0, none⟩ = some (.string x.key) ∧ w5.ownsMap Try.prog 9 (plainElem Try.prog 4) w.heap.size k (seenD seen) ∧ Below w.heap.size w w5 ∧ w.heap.size + 1 ≤ w5.heap.size from fun w5 hg =>
          ⟨(cell_far hg ⟨wr.heap.size, 0, none⟩ (by simp only [World.size_alloc]; omega) (fun h => by have h2 : wr.heap.size < wr.heap.size := (World.ownsRow.lt HO.out _ h.symm).2; exact absurd h2 (Nat.lt_irrefl _))).trans ((World.cell?_alloc_past _ _ _ (by simp)).trans e0),
            (HM2.out.alloc (.cells #[.string x.key, .slice x.sub x.subs.length x.cap] 37)).kept hg (fun h => by have := HO2.out.ge _ h.symm; omega),
            (HB2.out.alloc (by omega) (.cells #[.string x.key, .slice x.sub x.subs.length x.cap] 37)).grown hg (by simp; omega) (fun j hj => by have := HO2.out.ge _ hj; omega),
            by have hS5 := hg.size; simp only [World.size_alloc] at hS5; omega⟩)
        go_wp2_with (first
          | (at_lookup; refine wpList_lookup_own_bool _ rfl _ _ 59 rfl 9 4 law9 Try.underlying59 Try.underlying4 (zero_bool _) w.heap.size k _ rfl HM2.out _ _ rfl HKEY.out _ HC.out ?_)
          | (at_builtin; refine append_X rfl _ _ rfl (w.heap.size + 1) _ F rfl (HO2.out.alloc _) (wr.heap.size + 1) 1 x rfl (cell_new_at (by simp) 0 rfl) (cell_new_at (by simp) 1 rfl) (by have := HLEN.out; omega) (by simp; omega) ?_; intro v5 w5 hown5 hgrow5; have HO5 := Lib.hid hown5; obtain ⟨e5, hm5, hb5, hs5⟩ := HFAR.out _ hgrow5; have HM5 := Lib.hid hm5; have HB5 := Lib.hid hb5; have HS5 := Lib.hid hs5; clear hown5 hgrow5 hm5 hb5 hs5)
          | (at_mapUpdate; refine wpList_mapUpdate_own _ rfl _ _ _ 59 rfl 9 4 law9 Try.underlying59 _ w.heap.size k _ rfl HM5.out hn _ _ _ rfl rfl HKEY.out _ [] HV.out ?_; intro w1 hown1 hgrow1)
          | fail)
        have HM3 := Lib.hid (HSEEN.out.symm ▸ hown1)
        have HO3 := Lib.hid (World.ownsRow.kept HO5.out hgrow1 (.inr (fun h => by have := HO5.out.ge _ h; omega)))
        have HB3 := Lib.hid (HB5.out.grown hgrow1 HB5.out.size (fun j hj => by cases hj; exact Nat.le_refl _))
        have HS3 := Lib.hid (hgrow1.size)
        clear hown1 hgrow1
        rw [← hab]
        go_roundg (l.length - (k + 1))
        case measure => omega
        case rel => exact ⟨k + 1, hlt, rfl, by go_num, Lib.hid (by rw [HTK.out]; exact HM3.out), Lib.hid (by rw [HTK.out, HAPP.out, HEQ.out]; exact HO3.out), HB3, by have := HS3.out; have := HS5.out; omega⟩
    · obtain rfl : k = l.length := by omega
      rw [List.take_length] at HM HO
      have HLEN := Lib.hid (firstsX_len l)
      obtain ⟨F, hF⟩ : ∃ F, firstsX l = F := ⟨_, rfl⟩
      rw [hF] at HO HLEN
      have HF := Lib.hid hF
      clear hF hgk hk
      go_wp2_with fail
      refine (sort_any (w.heap.size + 1) _ F _ HO.out (by have := HLEN.out; omega)).mono ?_
      rintro e w2 ⟨rfl, os, hperm, hsort, hown, hbel⟩
      have HR := Lib.hid (show _ ∧ _ ∧ _ ∧ _ from ⟨hown.mono (Nat.le_succ _), HF.out ▸ hperm, hsort, HB.out.trans (hbel.mono (Nat.le_succ _))⟩)
      clear hperm hsort hown hbel
      go_wp2_with fail
      go_ret
      exact ⟨_, os, rfl, HR.out⟩

end Go.Proofs.Ytimcjkkbooinbaa
