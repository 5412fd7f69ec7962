/- The faults of an error, one by one: the iterator's contract. -/
import Derived.Test.YtfeikolfdggnfaaDoorTl
import Derived.Test.YtfeikolfdggnfaaDoorTr
import Derived.Sort.LoopGhostIn
namespace Go.Proofs.YtfeikolfdggnfaaDoor
open Go.RowKit Go.Extern.Stop Go.Stop Go.Extern

theorem faults_any (t : TypeId) (u : Value) (w : World) :
    Calls Tryd.prog 72 #[.iface t u] w fun e w' => e = .returned (.func (.func 80) #[] #[.pointer (some ⟨w.heap.size, 0, none⟩)]) ∧ w.alloc (.cells #[.iface t u] 33) = w' := by
  have hmf : ∀ (fn : Fn) (first cap : Array Value) (w : World), (Instr.makeFunc fn first cap).run Tryd.prog w = .ok (.func fn first cap) w := fun _ _ _ _ => rfl
  go_enter Tryd.func72, Tryd.ntmps72
  go_wp2
  go_ret
  exact ⟨rfl, rfl⟩

theorem fs_neqF (v : Value) (w : World) : (binOp .neq 33 (.iface 101 v) .nilIface).run Tryd.prog w = .ok (.bool true) w := by kernel_rfl
theorem fs_neqE (v : Value) (w : World) : (binOp .neq 33 (.iface 26 v) .nilIface).run Tryd.prog w = .ok (.bool true) w := by kernel_rfl
theorem fs_isF (v : Value) (w : World) : (Instr.typeAssert (.iface 101 v) 33 101 true).run Tryd.prog w = .ok (.tuple #[v, .bool true]) w := by kernel_rfl
theorem fs_isE (v : Value) (w : World) : (Instr.typeAssert (.iface 26 v) 33 101 true).run Tryd.prog w = .ok (.tuple #[.pointer none, .bool false]) w := by kernel_rfl
theorem fs_innerF (v : Value) (w : World) : (Instr.typeAssert (.iface 101 v) 33 144 true).run Tryd.prog w = .ok (.tuple #[.iface 101 v, .bool true]) w := by kernel_rfl
theorem fs_innerE (v : Value) (w : World) : (Instr.typeAssert (.iface 26 v) 33 144 true).run Tryd.prog w = .ok (.tuple #[.nilIface, .bool false]) w := run_typeAssert_lacksB Tryd.underlying144 (by kernel_rfl) (by kernel_rfl) v 33 w

set_option maxHeartbeats 1000000 in
set_option maxRecDepth 100000 in
theorem faults1_seq (d n₀ g : Nat) (kind a : Int) (what : ByteArray) (p : Addr) (w : World) (hp : w.cell? p = some (faultV g)) (hfa : w.heap[g]? = some (faultObj kind a what)) (hg0 : g < n₀) (_ : n₀ ≤ w.heap.size) :
    SeqStopsK Fence.wide d Tryd.prog 80 #[.pointer (some p)] (fun _ : Unit => #[.pointer (some ⟨g, 0, none⟩)]) (Below n₀) (fun xs => xs = [()]) (fun pre => pre = [()]) 1 w := by
  intro l J Jx W hbW hJ hJx hY h0
  refine callsIn_of_wp Tryd.func80 rfl trivial ?_ rfl
  simp only [Tryd.ntmps80, List.size_toArray, List.length_cons, List.length_nil, Nat.reduceAdd, Nat.reduceSub, Array.replicate_succ, Array.replicate_zero, List.push_toArray, List.append_toArray, List.nil_append, List.cons_append]
  have hFf : ∀ f, Fence.wide.fn f := fun _ => trivial
  have hFd : Fence.wide.depth = none := rfl
  have hp1 : W.cell? p = some (faultV g) := (hbW.cell (World.block_lt_of_cell? w _ hp)).trans hp
  have hfw : g < w.heap.size := (Array.getElem?_eq_some_iff.1 hfa).1
  have hf1 : W.heap[g]? = some (faultObj kind a what) := (hbW.block g hfw).trans hfa
  have HY := Lib.hid hY
  have HJ := Lib.hid hJ
  have H0 := Lib.hid h0
  have HF1 := Lib.hid hf1
  clear hY hJ h0 hp hfa hf1
  unfold faultV at hp1
  gi_wp2_with fail
  gi_loopg [3] 2 (fun k v wr => (k = 2 ∧ v = .iface 101 (.pointer (some ⟨g, 0, none⟩)) ∧ wr = W) ∨ (k = 1 ∧ v = .iface 26 (.int .i64 kind) ∧ Hid (J [()] wr)))
  case atStart => exact .inl ⟨rfl, rfl, rfl⟩
  case round =>
    rcases hrel with ⟨rfl, rfl, rfl⟩ | ⟨rfl, rfl, HJ1⟩
    · have e1 := fs_neqF
      have e2 := fs_isF
      have e3 := fs_innerF
      have m2 := kd_mUnwrap
      obtain ⟨fn, tmps, assign, body, hy, hR⟩ := HY.out [] () wr H0.out (by decide)
      have HRD := Lib.hid hR
      clear hR
      gi_wp2_with fail
      refine HRD.out.mono ?_
      rintro e w3 (⟨rfl, hj3, hb3⟩ | ⟨rfl, hx3⟩)
      · have HJ3 := Lib.hid hj3
        have HF3 := Lib.hid ((hb3.block g hg0).trans HF1.out)
        clear hj3 hb3 hy
        gi_wp2_with fail
        refine (callsIn_wide.2 (unwrap_any g kind a what _ HF3.out)).mono ?_
        rintro e w' ⟨rfl, rfl⟩
        clear e1 e2 e3 m2
        gi_wp2_with fail
        gi_roundg 1
        case measure => decide
        case rel => exact .inr ⟨rfl, rfl, HJ3⟩
      · have HX3 := Lib.hid hx3
        clear hx3 hy e1 e2 e3 m2
        gi_wp2
        refine bodyPost_ret (results_none rfl _ _ _) rfl ?_
        exact ⟨⟨_, rfl⟩, .inr ⟨[()], rfl, HX3.out⟩⟩
    · have e1 := fs_neqE
      have e2 := fs_isE
      have e3 := fs_innerE
      gi_wp2
      refine bodyPost_ret (results_none rfl _ _ _) rfl ?_
      exact ⟨⟨_, rfl⟩, .inl ⟨[()], rfl, HJ1.out⟩⟩

end Go.Proofs.YtfeikolfdggnfaaDoor
