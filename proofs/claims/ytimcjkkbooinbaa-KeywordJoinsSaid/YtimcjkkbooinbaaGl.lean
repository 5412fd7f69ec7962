/- Extensions are put in order by their keys. -/
import Derived.Test.YtimcjkkbooinbaaGk
import Derived.Test.YtimcjkkbooinbaaShelf
namespace Go.Proofs.Ytimcjkkbooinbaa
open Go.RowKit Go.Shelf Go.Sort

theorem bl_irrefl (x : List UInt8) : Op.bytesLess x x = false := by rw [Go.Proofs.bytesLess_eq]; simp
theorem bl_trans {x y z : List UInt8} (h1 : Op.bytesLess x y = true) (h2 : Op.bytesLess y z = true) : Op.bytesLess x z = true := by
  rw [Go.Proofs.bytesLess_eq] at *; simp only [decide_eq_true_eq] at *; exact List.lt_trans h1 h2
theorem bl_total {x y : List UInt8} (h1 : Op.bytesLess x y = false) (h2 : Op.bytesLess y x = false) : x = y := by
  rw [Go.Proofs.bytesLess_eq] at *; simp only [decide_eq_false_iff_not, List.not_lt] at *; exact List.le_antisymm h2 h1
theorem bl_ntrans {x y z : List UInt8} (h1 : Op.bytesLess x y = false) (h2 : Op.bytesLess y z = false) : Op.bytesLess x z = false := by
  rw [Go.Proofs.bytesLess_eq] at *; simp only [decide_eq_false_iff_not, List.not_lt] at *; exact List.le_trans h2 h1
theorem bl_asymm {x y : List UInt8} (h1 : Op.bytesLess x y = true) : Op.bytesLess y x = false := by
  cases h : Op.bytesLess y x with
  | false => rfl
  | true => have := bl_trans h1 h; rw [bl_irrefl] at this; cases this

/-- How two texts stand. -/
def cmpB (s t : List UInt8) : Int := if Op.bytesLess s t then -1 else if s == t then 0 else 1

theorem cmpB_lt (x y : List UInt8) : decide (cmpB x y < 0) = Op.bytesLess x y := by
  unfold cmpB
  cases h : Op.bytesLess x y with
  | true => simp
  | false => simp only [Bool.false_eq_true, if_false]; split <;> simp

set_option maxHeartbeats 400000 in
theorem compare_any (s t : ByteArray) (w : World) :
    Calls Try.prog 47 #[.string s, .string t] w (Quietly w (.int .i64 (cmpB s.toList t.toList))) := by
  go_enter Try.func47, Try.ntmps47
  go_wp2
  · rename_i h; go_ret; exact .mk 0 (congrArg (Value.int .i64) (by unfold cmpB; rw [if_pos h])) rfl
  · rename_i h1 h2; go_ret; exact .mk 0 (congrArg (Value.int .i64) (by unfold cmpB; rw [if_neg (by simp [*]), if_neg (by simpa using h2)])) rfl
  · rename_i h1 h2; go_ret; exact .mk 0 (congrArg (Value.int .i64) (by unfold cmpB; rw [if_neg (by simp [*]), if_pos (by simpa using h2)])) rfl

def cfX (x y : XE) : Int := cmpB x.key.toList y.key.toList
theorem ltX (x y : XE) : ltOf cfX x y = Op.bytesLess x.key.toList y.key.toList := cmpB_lt _ _
theorem swoX : SWO (ltOf cfX) where
  irrefl x := by rw [ltX]; exact bl_irrefl _
  trans x y z h1 h2 := by rw [ltX] at *; exact bl_trans h1 h2
  ntrans x y z h1 h2 := by rw [ltX] at *; exact bl_ntrans h1 h2

set_option maxHeartbeats 1000000 in
theorem first1_any (x y : XE) (w : World) :
    Calls Try.prog 46 #[.agg #[.string x.key, .slice x.sub x.subs.length x.cap], .agg #[.string y.key, .slice y.sub y.subs.length y.cap]] w fun e w' => e = .returned (.int .i64 (cfX x y)) ∧ ∃ q os', w' = grow (w.drewN q) os' := by
  obtain ⟨r, hr⟩ : ∃ r, cfX x y = r := ⟨_, rfl⟩
  rw [hr]
  have HR := Lib.hid hr
  clear hr
  go_enter Try.func46, Try.ntmps46
  go_wp2_with fail
  refine (compare_any x.key y.key _).mono ?_
  rintro e w' ⟨rfl, q, rfl⟩
  rw [show cmpB x.key.toList y.key.toList = r from HR.out]
  go_wp2_with fail
  go_ret
  exact ⟨rfl, q, #[.cells #[.string x.key, .slice x.sub x.subs.length x.cap] 37] ++ #[.cells #[.string y.key, .slice y.sub y.subs.length y.cap] 37], by rw [alloc_eq_grow, alloc_eq_grow, grow_grow]; rfl⟩

theorem flatK_list (d : Array XE) : (flatK encX 2 d).toList = d.toList.flatMap encX := by
  apply List.ext_getElem?
  intro t
  by_cases ht : t < d.size * 2
  · have e0 : (flatK encX 2 d).toList[t]? = some (encX d[t / 2]!)[t % 2]! := by
      have h1 := get_flatK encX 2 d t ht
      rw [getElem!_pos _ t (by simpa using ht)] at h1
      rw [Array.getElem?_toList, Array.getElem?_eq_getElem (by simpa using ht), h1]
    have hi : t / 2 < d.size := by omega
    obtain ⟨f1, f2⟩ := flat_enc d.toList (t / 2) (by simpa using hi)
    rw [e0, getElem!_pos d (t / 2) hi]
    simp only [Array.getElem_toList] at f1 f2
    rcases Nat.mod_two_eq_zero_or_one t with h | h
    · rw [show t / 2 * 2 = t by omega] at f1
      rw [f1, h]; rfl
    · rw [show t / 2 * 2 + 1 = t by omega] at f2
      rw [f2, h]; rfl
  · rw [List.getElem?_eq_none (by simp; omega), List.getElem?_eq_none (by rw [flat_len]; simp; omega)]

theorem take_putX (cur : Array Value) (F : Array Value) (h : F.size ≤ cur.size) : (putCells id 0 F cur).toList.take F.size = F.toList := by
  apply List.ext_getElem?
  intro j
  by_cases hj : j < F.size
  · rw [List.getElem?_take_of_lt hj, Array.getElem?_toList]
    simp [putCells, hj, show j < cur.size by omega]
  · rw [List.getElem?_take_eq_none (by omega), List.getElem?_eq_none (by simp; omega)]

/-- No later key is ahead of an earlier one. -/
def SortedX (ys : List XE) : Prop := ∀ i j (hj : j < ys.length) (hi : i < j), Op.bytesLess ys[j].key.toList (ys[i]'(Nat.lt_trans hi hj)).key.toList = false

set_option maxHeartbeats 1000000 in
theorem sort_any (base : Nat) (v : Value) (xs : List XE) (w : World) (hown : OwnX w base v xs) (hlen : xs.length < 4611686018427387904) :
    Calls Try.prog 45 #[v, .func (.func 46) #[] #[]] w fun e w' => e = .returned (.tuple #[]) ∧ ∃ ys, ys.Perm xs ∧ SortedX ys ∧ OwnX w' base v ys ∧ Below base w w' := by
  rcases hown with ⟨hl1, ⟨rfl, h0⟩ | ⟨g, cap, cur, rfl, hbg, hg, h1, h2, h3, h4⟩⟩
  · refine (AnyF.slices_SortFunc_none (ρ := Try.laySort_ren) { Try.laySort with } none 0 _ w).mono ?_
    rintro e w' ⟨rfl, rfl⟩
    have hx : xs = [] := List.length_eq_zero_iff.1 h0
    subst hx
    exact ⟨rfl, [], List.Perm.refl _, fun i j hj => by simp at hj, World.ownsRow_nil _ _ _ _, Below.refl _ _⟩
  · have hgw : g < w.heap.size := (Array.getElem?_eq_some_iff.1 hg).1
    have hH : HoldsK encX 2 w g 0 xs.toArray := by
      intro j hj
      have hj' : j < xs.length * 2 := by simpa using hj
      refine ⟨?_, by simp [World.frozen?, hg]⟩
      have e1 : (cur.toList.take (xs.length * 2))[j]? = (xs.flatMap encX)[j]? := by rw [h4]
      rw [List.getElem?_take_of_lt hj'] at e1
      have e2 := congrArg (·[j]?) (flatK_list xs.toArray)
      simp only [List.toList_toArray] at e2
      rw [← e2, Array.getElem?_toList, Array.getElem?_toList] at e1
      simp only [World.cell?, hg, Nat.zero_add, Option.isSome_none, Bool.false_eq_true, if_false]
      rw [e1, Array.getElem?_eq_getElem hj, getElem!_pos _ j hj]
      rfl
    have hcmp : CmpLays Try.prog 46 #[] encX 2 cfX g 0 xs.toArray.size w := fun _ _ _ _ x y => first1_any x y _
    have hc := AnyQ.slices_SortFunc (ρ := Try.laySort_ren) Try.laySort 2 (fun w => by kernel_rfl) (fun w => by kernel_rfl) encX (fun _ => rfl) (fun x v hv => by simp [encX] at hv; rcases hv with rfl | rfl <;> rfl) cfX swoX 46 #[] g 0 cap xs.toArray w (enters_of Try.func46 (by kernel_rfl) rfl) hcmp hH hgw (by simpa using hlen)
    rw [show xs.toArray.size = xs.length by simp] at hc
    refine hc.mono ?_
    rintro e w' ⟨rfl, d', n, os, ⟨hs1, _, hs3⟩, hs, rfl⟩
    have hd's : d'.size = xs.length := by rw [hs1]; simp
    refine ⟨rfl, d'.toList, ?_, ?_, ?_, ?_⟩
    · have e1 : d'.extract 0 xs.length = d' := Array.extract_eq_self_of_le (by omega)
      have e2 : xs.toArray.extract 0 xs.length = xs.toArray := Array.extract_eq_self_of_le (by simp)
      rw [e1, e2] at hs3
      simpa using hs3
    · intro i j hj hi
      simp only [Array.length_toList] at hj
      have := hs i j (by omega) hi (by omega)
      rw [ltX, getElem!_pos d' j (by omega), getElem!_pos d' i (by omega)] at this
      simpa using this
    · have hg' : g < (putRowK encX 2 (Sort.ahead w n) g 0 d').heap.size := by simpa [putRowK] using hgw
      refine ⟨flat_len _, .inr ⟨g, cap, putCells id 0 (flatK encX 2 d') cur, by simp [hd's], hbg, ?_, by simp [hd's]; omega, h2, by simp [putCells, h3], ?_⟩⟩
      · unfold sortWorldK
        rw [heap_grow_old _ _ hg']
        simp [putRowK, putRow, mapBlock, Sort.ahead, Array.getElem?_modify, hg, onCells]
      · have hsz : (flatK encX 2 d').size = d'.toList.length * 2 := by simp
        have := take_putX cur (flatK encX 2 d') (by rw [hsz]; simp; omega)
        rw [hsz] at this
        rw [this, flatK_list]
    · refine (Below.refl base w).trans ⟨rfl, rfl, rfl, by simp [sortWorldK, putRowK], fun k hk => ?_⟩
      unfold sortWorldK
      rw [heap_grow_old _ _ (by simp [putRowK, Sort.ahead]; omega)]
      have : g ≠ k := by omega
      simp [putRowK, putRow, mapBlock, Sort.ahead, Array.getElem?_modify, this]

end Go.Proofs.Ytimcjkkbooinbaa
