/-
  Untorn and Fresh return true. Conditions: the listed errors hold pointers; the script's cells are there; it is shorter than 2^42 steps.
-/
import Derived.Test.YtbdccfgeildebaaDoorHanded
namespace Go.Proofs.YtbdccfgeildebaaDoor
open Go.RowKit Mem Abs

theorem Base.later {f : Nat → Addr} {w w1 : World} (hb : Base f w w.heap.size) (hl : Below w.heap.size w w1) : Base f w1 w1.heap.size :=
  ⟨hb.sent' hl, hb.apart' hl, rfl⟩

theorem OpsAt.later {w w1 : World} {a : Addr} {n : Nat} (h : OpsAt w a n) (hl : Below w.heap.size w w1) : OpsAt w1 a n :=
  ⟨Nat.lt_of_lt_of_le h.lt hl.size, fun _ hi => h.below hl h.lt hi⟩

set_option maxRecDepth 20000 in
set_option maxHeartbeats 1000000 in
theorem untorn_calls {f : Nat → Addr} (A : Option Addr) (n cap : Nat) (w : World) (hB : Base f w w.heap.size) (hops : n ≠ 0 → ∃ a, A = some a ∧ OpsAt w a n) (hn : n ≤ 4398046511104) :
    Calls Tryd.prog 4 #[.slice A n cap] w fun e w' => e = .returned (.bool true) ∧ Below w.heap.size w w' := by
  have HB := hid' hB
  have HO := hid' hops
  have HN := hid' hn
  have C1 := hid' (handed_calls w)
  clear hB hops hn
  go_enter Tryd.func4, Tryd.ntmps4
  go_wp2_with fail
  refine C1.out.mono ?_
  rintro e w1 ⟨rfl, hl1'⟩
  have hl1 := hid' hl1'
  have C2 := hid' (handing_calls A n cap w1 (HB.out.later hl1') (fun h => by obtain ⟨a, e, h⟩ := HO.out h; exact ⟨a, e, h.later hl1'⟩) HN.out)
  clear hl1' C1
  go_wp2_with fail
  refine C2.out.mono ?_
  rintro e w2 ⟨bh, m, h, rfl, hb', hl2'⟩
  have hl2 := hid' (hl1.out.trans (hl2'.mono hl1.out.size))
  have c5 : w2.cell? ⟨bh, 5, none⟩ = some (.bool true) := hb'.cell 5
  clear hb' hl2' C2
  go_wp2_with fail
  go_ret
  exact ⟨rfl, hl2.out⟩

set_option maxRecDepth 20000 in
set_option maxHeartbeats 1000000 in
theorem fresh_calls {f : Nat → Addr} (A : Option Addr) (n cap : Nat) (w : World) (hB : Base f w w.heap.size) (hops : n ≠ 0 → ∃ a, A = some a ∧ OpsAt w a n) (hn : n ≤ 4398046511104) :
    Calls Tryd.prog 5 #[.slice A n cap] w fun e w' => e = .returned (.bool true) ∧ Below w.heap.size w w' := by
  have HB := hid' hB
  have HO := hid' hops
  have HN := hid' hn
  have C1 := hid' (handed_calls w)
  clear hB hops hn
  go_enter Tryd.func5, Tryd.ntmps5
  go_wp2_with fail
  refine C1.out.mono ?_
  rintro e w1 ⟨rfl, hl1'⟩
  have hl1 := hid' hl1'
  have C2 := hid' (handing_calls A n cap w1 (HB.out.later hl1') (fun h => by obtain ⟨a, e, h⟩ := HO.out h; exact ⟨a, e, h.later hl1'⟩) HN.out)
  clear hl1' C1
  go_wp2_with fail
  refine C2.out.mono ?_
  rintro e w2 ⟨bh, m, h, rfl, hb', hl2'⟩
  have hl2 := hid' (hl1.out.trans (hl2'.mono hl1.out.size))
  have c6 : w2.cell? ⟨bh, 6, none⟩ = some (.bool true) := hb'.cell 6
  clear hb' hl2' C2
  go_wp2_with fail
  go_ret
  exact ⟨rfl, hl2.out⟩
end Go.Proofs.YtbdccfgeildebaaDoor
