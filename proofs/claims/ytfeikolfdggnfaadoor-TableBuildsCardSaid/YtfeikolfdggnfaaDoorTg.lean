/- Build: rows are put in order by their keys. -/
import Derived.Test.YtfeikolfdggnfaaDoorTf
import Derived.Test.YtfeikolfdggnfaaDoorShelf
namespace Go.Proofs.YtfeikolfdggnfaaDoor
open Go.RowKit Go.Shelf Go.Sort

/-- A text that has a key of so many bytes. -/
abbrev Keyed (key : Nat) : Type := { s : ByteArray // key ≤ s.size ∧ s.size ≤ maxLen }

def keyedDefault (key : Nat) (h : key ≤ 255) : Keyed key := ⟨⟨Array.replicate key 0⟩, by show key ≤ (Array.replicate key 0).size; simp, by show (Array.replicate key 0).size ≤ maxLen; simp [maxLen]; omega⟩

/-- A text's key, as a list of bytes. -/
def keyL (key : Nat) (s : ByteArray) : List UInt8 := (s.extract 0 key).toList

def encK (key : Nat) (s : Keyed key) : Value := .string s.val
def cfK (key : Nat) (x y : Keyed key) : Int := cmpB (keyL key x.val) (keyL key y.val)

theorem bl_irrefl (x : List UInt8) : Op.bytesLess x x = false := by rw [Go.Proofs.bytesLess_eq]; simp
theorem bl_trans {x y z : List UInt8} (h1 : Op.bytesLess x y = true) (h2 : Op.bytesLess y z = true) : Op.bytesLess x z = true := by
  rw [Go.Proofs.bytesLess_eq] at *; simp only [decide_eq_true_eq] at *; exact List.lt_trans h1 h2
theorem bl_total {x y : List UInt8} (h1 : Op.bytesLess x y = false) (h2 : Op.bytesLess y x = false) : x = y := by
  rw [Go.Proofs.bytesLess_eq] at *; simp only [decide_eq_false_iff_not, List.not_lt] at *; exact List.le_antisymm h2 h1
theorem bl_ntrans {x y z : List UInt8} (h1 : Op.bytesLess x y = false) (h2 : Op.bytesLess y z = false) : Op.bytesLess x z = false := by
  rw [Go.Proofs.bytesLess_eq] at *; simp only [decide_eq_false_iff_not, List.not_lt] at *; exact List.le_trans h2 h1
theorem bl_asymm {x y : List UInt8} (h1 : Op.bytesLess x y = true) : Op.bytesLess y x = false := by
  cases h : Op.bytesLess y x with
  | false => rfl
  | true => have := bl_trans h1 h; rw [bl_irrefl] at this; cases this

theorem cmpB_lt (x y : List UInt8) : decide (cmpB x y < 0) = Op.bytesLess x y := by
  unfold cmpB
  cases h : Op.bytesLess x y with
  | true => simp
  | false => simp only [Bool.false_eq_true, if_false]; split <;> simp

theorem ltK (key : Nat) (x y : Keyed key) : ltOf (cfK key) x y = Op.bytesLess (keyL key x.val) (keyL key y.val) := cmpB_lt _ _

theorem swoK (key : Nat) : SWO (ltOf (cfK key)) where
  irrefl x := by rw [ltK]; exact bl_irrefl _
  trans x y z h1 h2 := by rw [ltK] at *; exact bl_trans h1 h2
  ntrans x y z h1 h2 := by rw [ltK] at *; exact bl_ntrans h1 h2

/-- No later key is ahead of an earlier one. -/
def SortedK (key : Nat) (ys : List ByteArray) : Prop := ∀ i j (hj : j < ys.length) (hi : i < j), Op.bytesLess (keyL key ys[j]) (keyL key (ys[i]'(Nat.lt_trans hi hj))) = false

theorem take_put {α : Type} [Inhabited α] (enc : α → Value) (cur : Array Value) (d : Array α) (h : d.size ≤ cur.size) : (putCells enc 0 d cur).toList.take d.size = d.toList.map enc := by
  apply List.ext_getElem?
  intro j
  by_cases hj : j < d.size
  · rw [List.getElem?_take_of_lt hj, Array.getElem?_toList]
    simp [putCells, hj, show j < cur.size by omega]
  · rw [List.getElem?_take_eq_none (by omega), List.getElem?_eq_none (by simp; omega)]

set_option maxHeartbeats 1000000 in
theorem sort_any (key base : Nat) (hk255 : key ≤ 255) (v : Value) (xs : List ByteArray) (p : Addr) (w : World) (hown : OwnS w base v xs) (hk : ∀ x ∈ xs, key ≤ x.size ∧ x.size ≤ maxLen) (hp : w.cell? p = some (.int .i64 key)) (hpb : p.block < base) (hb : base ≤ w.heap.size) (hlen : xs.length < 4611686018427387904) :
    Calls Tryd.prog 29 #[v, .func (.func 30) #[] #[.pointer (some p)]] w fun e w' => e = .returned (.tuple #[]) ∧ ∃ ys, ys.Perm xs ∧ SortedK key ys ∧ OwnS w' base v ys ∧ Below base w w' := by
  rcases hown with ⟨hl1, ⟨rfl, h0⟩ | ⟨g, cap, cur, rfl, hbg, hg, h1, h2, h3, h4⟩⟩
  · refine (Tryd.slices_SortFunc_none none 0 _ w).mono ?_
    rintro e w' ⟨rfl, rfl⟩
    have hx : xs = [] := List.length_eq_zero_iff.1 h0
    subst hx
    exact ⟨rfl, [], List.Perm.refl _, fun i j hj => by simp at hj, World.ownsRow_nil _ _ _ _, Below.refl _ _⟩
  · letI : Inhabited (Keyed key) := ⟨keyedDefault key hk255⟩
    obtain ⟨d, hd⟩ : ∃ d : List (Keyed key), d.map (·.val) = xs := ⟨xs.attach.map fun x => ⟨x.val, hk x.val x.2⟩, by simp⟩
    have hdl : d.length = xs.length := by rw [← hd]; simp
    have henc : xs.map Value.string = d.map (encK key) := by rw [← hd, List.map_map]; rfl
    have hgw : g < w.heap.size := (Array.getElem?_eq_some_iff.1 hg).1
    have hH : Holds (encK key) w g 0 d.toArray := by
      intro j hj
      have hj' : j < d.length := by simpa using hj
      refine ⟨?_, by simp [World.frozen?, hg]⟩
      have e1 : (cur.toList.take (xs.length * 1))[j]? = (d.map (encK key))[j]? := by rw [h4, henc]
      rw [List.getElem?_take_of_lt (by omega)] at e1
      simp only [World.cell?, hg, Nat.zero_add]
      simp only [Option.isSome_none, Bool.false_eq_true, if_false]
      rw [← Array.getElem?_toList, e1]
      simp [hj']
    have hcmp : CmpLays1 Tryd.prog 30 #[.pointer (some p)] (encK key) (cfK key) g 0 d.toArray.size w := by
      refine CmpReads.lays ?_
      intro m os dk hs x y
      have hpw : (sortWorld (encK key) w g 0 m dk os).cell? p = some (.int .i64 key) := by
        unfold sortWorld
        have hpw' : p.block < w.heap.size := Nat.lt_of_lt_of_le hpb hb
        rw [cell?_grow _ _ _ (by simpa [Sort.ahead] using hpw'), cell?_putRow_other _ _ _ _ _ _ (.inl (by omega))]
        exact hp
      exact (build1_any key x.val y.val p _ x.2.1 y.2.1 x.2.2 y.2.2 hpw).mono fun e w' ⟨he, n, hw⟩ => ⟨he, n, hw⟩
    have hc := Tryd.slices_SortFunc (encK key) (fun _ => rfl) (cfK key) (swoK key) 30 #[.pointer (some p)] g 0 cap d.toArray w (enters_of Tryd.func30 (by kernel_rfl) rfl) hcmp hH hgw (by simpa [hdl] using hlen)
    rw [show d.toArray.size = xs.length by simpa using hdl] at hc
    refine hc.mono ?_
    rintro e w' ⟨rfl, d', n, os, ⟨hs1, _, hs3⟩, hs, rfl⟩
    have hd's : d'.size = xs.length := by rw [hs1]; simpa using hdl
    refine ⟨rfl, d'.toList.map (·.val), ?_, ?_, ?_, ?_⟩
    · have e1 : d'.extract 0 xs.length = d' := Array.extract_eq_self_of_le (by omega)
      have e2 : d.toArray.extract 0 xs.length = d.toArray := Array.extract_eq_self_of_le (by simp; omega)
      rw [e1, e2] at hs3
      have := hs3.map (·.val)
      rwa [List.toList_toArray, hd] at this
    · intro i j hj hi
      simp only [List.length_map, Array.length_toList] at hj
      have := hs i j (by omega) hi (by omega)
      rw [ltK, getElem!_pos d' j (by omega), getElem!_pos d' i (by omega)] at this
      simpa using this
    · have hg' : g < (putRow (encK key) (Sort.ahead w n) g 0 d').heap.size := by simpa using hgw
      refine ⟨by simp, .inr ⟨g, cap, putCells (encK key) 0 d' cur, by simp [hd's], hbg, ?_, by simp [hd's]; omega, h2, by simp [putCells, h3], ?_⟩⟩
      · unfold sortWorld
        rw [heap_grow_old _ _ hg']
        simp [putRow, mapBlock, Sort.ahead, Array.getElem?_modify, hg, onCells]
      · have := take_put (encK key) cur d' (by omega)
        simp only [List.length_map, Array.length_toList, Nat.mul_one]
        rw [this, List.map_map]; rfl
    · refine (Below.refl base w).trans ⟨rfl, rfl, rfl, by simp [sortWorld], fun k hk => ?_⟩
      unfold sortWorld
      rw [heap_grow_old _ _ (by simp [Sort.ahead]; omega)]
      have : g ≠ k := by omega
      simp [putRow, mapBlock, Sort.ahead, Array.getElem?_modify, this]

end Go.Proofs.YtfeikolfdggnfaaDoor
