/-
  The atomic words' methods, in one goroutine: each a load, a store or a swap of one cell. Conditions: the cell is there, of its kind, not frozen where it is written.
-/
import Derived.Test.YtbdccfgeildebaaDoorMem
import Derived.Test.YtbdccfgeildebaaDoorRows
import Derived.Laws.LoneSync
import Derived.KernelRfl
namespace Go.Proofs.YtbdccfgeildebaaDoor
open Go.RowKit Mem

theorem run_call_swap {P : Program} {f : FuncId} {fn : Func} (hf : P.funcs[f]? = some fn) (hname : (fn.name == "runtime.NumGoroutine") = false) (hb : fn.body.isNone = true) (hn : Extern.findNext fn = none) (k : IntKind)
    (he : Extern.find fn = some (Extern.Atomic.swapT (.int k))) {a : Addr} {x y : Int} {w : World} (hc : w.cell? a = some (.int k x)) (hz : w.frozen? a = false) :
    (callFunc f #[.pointer (some a), .int k y]).run P w = .ok (.value (.int k x)) (w.setCell a (.int k y)) := by
  rw [run_callFunc_extern hf hname hb hn he]
  change (Sem.run P (do
    let a' ← asAddr (.pointer (some a))
    let old ← Extern.Atomic.read (.int k) a'
    store a' (.int k y) .atomic
    pure old) w).andThen _ = _
  simp [Extern.Atomic.read, asAddr, hc, hz, Result.andThen, go_sem, stored]

theorem x_load32 {a : Addr} {x : Int} {w : World} (hc : w.cell? a = some (.int .i32 x)) : (callFunc 49 #[.pointer (some a)]).run Tryd.prog w = .ok (.value (.int .i32 x)) w :=
  run_call_load Tryd.func49 (by kernel_rfl) (by kernel_rfl) (by kernel_rfl) .i32 (by kernel_rfl) hc
theorem x_store32 {a : Addr} {y : Int} {u : Value} {w : World} (hc : w.cell? a = some u) (hz : w.frozen? a = false) : (callFunc 50 #[.pointer (some a), .int .i32 y]).run Tryd.prog w = .ok (.value (.tuple #[])) (w.setCell a (.int .i32 y)) :=
  run_call_store Tryd.func50 (by kernel_rfl) (by kernel_rfl) (by kernel_rfl) (by kernel_rfl) hc hz
theorem x_loadu32 {a : Addr} {x : Int} {w : World} (hc : w.cell? a = some (.int .u32 x)) : (callFunc 55 #[.pointer (some a)]).run Tryd.prog w = .ok (.value (.int .u32 x)) w :=
  run_call_load Tryd.func55 (by kernel_rfl) (by kernel_rfl) (by kernel_rfl) .u32 (by kernel_rfl) hc
theorem x_swapu32 {a : Addr} {x y : Int} {w : World} (hc : w.cell? a = some (.int .u32 x)) (hz : w.frozen? a = false) : (callFunc 56 #[.pointer (some a), .int .u32 y]).run Tryd.prog w = .ok (.value (.int .u32 x)) (w.setCell a (.int .u32 y)) :=
  run_call_swap Tryd.func56 (by kernel_rfl) (by kernel_rfl) (by kernel_rfl) .u32 (by kernel_rfl) hc hz
theorem x_storeu32 {a : Addr} {y : Int} {u : Value} {w : World} (hc : w.cell? a = some u) (hz : w.frozen? a = false) : (callFunc 28 #[.pointer (some a), .int .u32 y]).run Tryd.prog w = .ok (.value (.tuple #[])) (w.setCell a (.int .u32 y)) :=
  run_call_store Tryd.func28 (by kernel_rfl) (by kernel_rfl) (by kernel_rfl) (by kernel_rfl) hc hz
theorem x_storeu64 {a : Addr} {y : Int} {u : Value} {w : World} (hc : w.cell? a = some u) (hz : w.frozen? a = false) : (callFunc 29 #[.pointer (some a), .int .u64 y]).run Tryd.prog w = .ok (.value (.tuple #[])) (w.setCell a (.int .u64 y)) :=
  run_call_store Tryd.func29 (by kernel_rfl) (by kernel_rfl) (by kernel_rfl) (by kernel_rfl) hc hz
theorem x_loadu64 {a : Addr} {x : Int} {w : World} (hc : w.cell? a = some (.int .u64 x)) : (callFunc 60 #[.pointer (some a)]).run Tryd.prog w = .ok (.value (.int .u64 x)) w :=
  run_call_load Tryd.func60 (by kernel_rfl) (by kernel_rfl) (by kernel_rfl) .u64 (by kernel_rfl) hc

theorem load32 (b i : Nat) (x : Int) (w : World) (hc : w.cell? ⟨b, i, none⟩ = some (.int .i32 x)) :
    Calls Tryd.prog 47 #[.pointer (some ⟨b, i, none⟩)] w fun e w' => e = .returned (.int .i32 x) ∧ w = w' := by
  have hd := x_load32 hc
  go_enter Tryd.func47, Tryd.ntmps47
  go_wp2
  go_ret
  exact ⟨rfl, rfl⟩
theorem store32 (b i : Nat) (y : Int) (u : Value) (w : World) (hc : w.cell? ⟨b, i, none⟩ = some u) (hz : w.frozen? ⟨b, i, none⟩ = false) :
    Calls Tryd.prog 48 #[.pointer (some ⟨b, i, none⟩), .int .i32 y] w fun e w' => e = .returned (.tuple #[]) ∧ w.setCell ⟨b, i, none⟩ (.int .i32 y) = w' := by
  have hd := x_store32 (y := y) hc hz
  go_enter Tryd.func48, Tryd.ntmps48
  go_wp2
  go_end0
  exact ⟨rfl, rfl⟩
theorem loadu32 (b i : Nat) (x : Int) (w : World) (hc : w.cell? ⟨b, i, none⟩ = some (.int .u32 x)) :
    Calls Tryd.prog 53 #[.pointer (some ⟨b, i, none⟩)] w fun e w' => e = .returned (.int .u32 x) ∧ w = w' := by
  have hd := x_loadu32 hc
  go_enter Tryd.func53, Tryd.ntmps53
  go_wp2
  go_ret
  exact ⟨rfl, rfl⟩
theorem swapu32 (b i : Nat) (x y : Int) (w : World) (hc : w.cell? ⟨b, i, none⟩ = some (.int .u32 x)) (hz : w.frozen? ⟨b, i, none⟩ = false) :
    Calls Tryd.prog 54 #[.pointer (some ⟨b, i, none⟩), .int .u32 y] w fun e w' => e = .returned (.int .u32 x) ∧ w.setCell ⟨b, i, none⟩ (.int .u32 y) = w' := by
  have hd := x_swapu32 (y := y) hc hz
  go_enter Tryd.func54, Tryd.ntmps54
  go_wp2
  go_ret
  exact ⟨rfl, rfl⟩
theorem storeu32 (b i : Nat) (y : Int) (u : Value) (w : World) (hc : w.cell? ⟨b, i, none⟩ = some u) (hz : w.frozen? ⟨b, i, none⟩ = false) :
    Calls Tryd.prog 25 #[.pointer (some ⟨b, i, none⟩), .int .u32 y] w fun e w' => e = .returned (.tuple #[]) ∧ w.setCell ⟨b, i, none⟩ (.int .u32 y) = w' := by
  have hd := x_storeu32 (y := y) hc hz
  go_enter Tryd.func25, Tryd.ntmps25
  go_wp2
  go_end0
  exact ⟨rfl, rfl⟩
theorem storeu64 (b i : Nat) (y : Int) (u : Value) (w : World) (hc : w.cell? ⟨b, i, none⟩ = some u) (hz : w.frozen? ⟨b, i, none⟩ = false) :
    Calls Tryd.prog 26 #[.pointer (some ⟨b, i, none⟩), .int .u64 y] w fun e w' => e = .returned (.tuple #[]) ∧ w.setCell ⟨b, i, none⟩ (.int .u64 y) = w' := by
  have hd := x_storeu64 (y := y) hc hz
  go_enter Tryd.func26, Tryd.ntmps26
  go_wp2
  go_end0
  exact ⟨rfl, rfl⟩
theorem loadu64 (b i : Nat) (x : Int) (w : World) (hc : w.cell? ⟨b, i, none⟩ = some (.int .u64 x)) :
    Calls Tryd.prog 59 #[.pointer (some ⟨b, i, none⟩)] w fun e w' => e = .returned (.int .u64 x) ∧ w = w' := by
  have hd := x_loadu64 hc
  go_enter Tryd.func59, Tryd.ntmps59
  go_wp2
  go_ret
  exact ⟨rfl, rfl⟩
end Go.Proofs.YtbdccfgeildebaaDoor
