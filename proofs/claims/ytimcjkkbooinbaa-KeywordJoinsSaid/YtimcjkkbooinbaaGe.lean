/- small; upTo. -/
import Derived.Test.YtimcjkkbooinbaaGd
namespace Go.Proofs.Ytimcjkkbooinbaa
open Go.RowKit Go.Shelf

theorem low_snoc (l : List ByteArray) (k : Nat) (h : k < l.length) : (l.take (k + 1)).map lowB = (l.take k).map lowB ++ [lowB l[k]] := by
  rw [List.take_succ_eq_append_getElem h, List.map_append]; rfl

set_option maxHeartbeats 1000000 in
theorem small_any (a : Option Addr) (cap : Nat) (l : List ByteArray) (w : World) (hl : l.length ≤ 1000000) (hz : ∀ x ∈ l, x.size ≤ 1000000) (h : StrsAt w a l) :
    Calls Try.prog 25 #[.slice a l.length cap] w fun e w' => ∃ v, e = .returned v ∧ OwnS w' w.heap.size v (l.map lowB) ∧ Below w.heap.size w w' := by
  have HS := Lib.hid h
  have HZ := Lib.hid hz
  clear h hz
  go_enter Try.func25, Try.ntmps25
  go_wp2_with fail
  go_loopw [3, 8] (fun v i wr => ∃ k : Nat, i = .int .i64 k ∧ k ≤ l.length ∧ Hid (OwnS wr w.heap.size v ((l.take k).map lowB)) ∧ Hid (Below w.heap.size w wr)) (fun _ i _ => l.length - (intOf i).toNat)
  case atStart => exact ⟨0, rfl, by omega, Lib.hid (World.ownsRow_nil _ _ _ _), Lib.hid (Below.refl _ _)⟩
  case round =>
    obtain ⟨k, rfl, hk, HO, HB⟩ := hrel
    by_cases hlt : k < l.length
    · obtain ⟨b, off, rfl, hc0⟩ := HS.out k hlt
      have hc : wr.cell? ⟨b, off + k, none⟩ = some (.string l[k]) := (HB.out.cell (p := ⟨b, off + k, none⟩) (World.block_lt_of_cell? w _ hc0)).trans hc0
      have hzk := HZ.out l[k] (List.getElem_mem hlt)
      have HSN := Lib.hid (low_snoc l k hlt)
      have HLEN := Lib.hid (show ((l.take k).map lowB).length ≤ 1000000 by simp; omega)
      generalize (l.take k).map lowB = ys at HO HSN HLEN
      generalize l[k] = s at *
      have HLW := Lib.hid (lower_any s wr hzk)
      generalize lowB s = t at HLW HSN
      clear hc0 hzk
      go_wp2_with fail
      refine HLW.out.mono ?_
      rintro e w1 ⟨rfl, hb1⟩
      have HB1 := Lib.hid (HB.out.trans (hb1.mono HB.out.size))
      have HO1 := Lib.hid (show OwnS w1 w.heap.size u3 ys from World.ownsRow.kept HO.out (grown_of_below hb1 none) (Classical.em _))
      clear hb1 HLW
      go_wp2_with (at_builtin; refine append_S rfl _ _ rfl w.heap.size u3 ys rfl (HO1.out.alloc _) w1.heap.size 1 t rfl (by simp) (Nat.le_trans (Nat.add_le_add_right HLEN.out 1) (by decide)) (by have := HB1.out.size; simp; omega) ?_; intro v' w2 hown' hgrow)
      have HN := Lib.hid ((HB1.out.alloc HB1.out.size _).grown hgrow (by have := HB1.out.size; simp; omega) HO1.out.ge)
      have HO' := Lib.hid hown'
      clear hown' hgrow
      go_roundw
      case rel => exact ⟨k + 1, by go_num, by omega, by rw [HSN.out]; exact HO', HN⟩
      case measure => simp [intOf]; omega
    · obtain rfl : k = l.length := by omega
      have hO := HO.out
      rw [List.take_length] at hO
      have HO2 := Lib.hid hO
      clear hO
      go_wp2_with fail
      go_ret
      exact ⟨_, rfl, HO2.out, HB.out⟩

/-- Is it no key? -/
def noKey (s : ByteArray) : Bool := !(s.size == 2)

theorem idx_tw {α : Type} (p : α → Bool) (d : α) : ∀ (zs : List α) (i : Nat), Lib.idxByFrom (fun _ y => p y) d zs i = if (zs.takeWhile fun y => !p y).length < zs.length then ((i + (zs.takeWhile fun y => !p y).length : Nat) : Int) else -1
  | [], i => by simp [Lib.idxByFrom]
  | y :: zs, i => by
    simp only [Lib.idxByFrom]
    by_cases h : p y = true
    · rw [if_pos h]; simp [List.takeWhile_cons, h]
    · rw [if_neg h, idx_tw p d zs (i + 1)]
      have h' : (!p y) = true := by simpa using h
      simp only [List.takeWhile_cons, h', if_true, List.length_cons]
      by_cases hlt : (zs.takeWhile fun y => !p y).length < zs.length
      · rw [if_pos hlt, if_pos (by omega)]; congr 1; omega
      · rw [if_neg hlt, if_neg (by omega)]

theorem isKey_any (s : ByteArray) (w : World) : Calls Try.prog 42 #[.string s] w fun e w' => e = .returned (.bool (s.size == 2)) ∧ w' = w := by
  cases h : (s.size == 2) with
  | true =>
    have h2 : ((s.size : Int) == 2) = true := by rw [beq_iff_eq] at h ⊢; omega
    go_enter Try.func42, Try.ntmps42
    go_wp2
    go_ret
    exact ⟨rfl, rfl⟩
  | false =>
    have h2 : ((s.size : Int) == 2) = false := by rw [beq_eq_false_iff_ne] at h ⊢; omega
    go_enter Try.func42, Try.ntmps42
    go_wp2
    go_ret
    exact ⟨rfl, rfl⟩

end Go.Proofs.Ytimcjkkbooinbaa
