/-
  StepWrite and StepRead of a register, for each kind's protocol as a hypothesis. Conditions: the register's first block is there.
-/
import Derived.Test.YtbdccfgeildebaaDoorReg
import Derived.BigQuiet
import Derived.Deep.QuietTactic
namespace Go.Proofs.YtbdccfgeildebaaDoor
open Go.RowKit Mem Abs

/-- What StepRead leaves. -/
def StepRPost (br ob m c rs : Nat) (over : Bool) (R : World → Prop) (S : Nat → Prop) (w : World) (e : Ending) (w' : World) : Prop :=
  (e = .returned (if over then .tuple #[.bool true, .slice (some ⟨ob, 0, none⟩) m c, .nilIface] else .tuple #[.bool false, .slice none 0 0, .nilIface])) ∧
  ∃ (w1 : World) (k : Nat), R w1 ∧ Chg S w w1 ∧ w' = (if over then ((w1.setCell ⟨br, 5, none⟩ (.int .i64 ((rs : Int) + 1))).setCell ⟨br, 7, none⟩ (.bool false)).drewN k else (w1.setCell ⟨br, 5, none⟩ (.int .i64 ((rs : Int) + 1))).drewN k)

/-- What StepWrite leaves. -/
def StepWPost (br ws : Nat) (over : Bool) (R : World → Prop) (S : Nat → Prop) (w : World) (e : Ending) (w' : World) : Prop :=
  e = .returned (.tuple #[.bool over, .nilIface]) ∧ ∃ w1 : World, R w1 ∧ Chg S w w1 ∧ w' = (w1.setCell ⟨br, 4, none⟩ (.int .i64 ((ws : Int) + 1))).setCell ⟨br, 6, none⟩ (.bool (!over))

theorem method_w66 (a : Addr) (w : World) : (method 232 66 (.pointer (some a)) "ratemill/reg.write").run Tryd.prog w = .ok (46, .pointer (some a)) w := by kernel_rfl
theorem method_r66 (a : Addr) (w : World) : (method 232 66 (.pointer (some a)) "ratemill/reg.read").run Tryd.prog w = .ok (45, .pointer (some a)) w := by kernel_rfl

set_option maxRecDepth 20000 in
set_option maxHeartbeats 1000000 in
theorem stepW_core66 {w : World} {br bp : Nat} {pv ov : Value} {n ws rs : Nat} {rd over : Bool} {R : World → Prop} {S : Nat → Prop}
    (h : Blk w br 65 #[.int .i64 (n : Int), .iface 66 (.pointer (some ⟨bp, 0, none⟩)), pv, ov, .int .i64 (ws : Int), .int .i64 (rs : Int), .bool true, .bool rd]) (hS : ¬ S br) (hws : ws ≤ 4200)
    (hC : Calls Tryd.prog 46 #[.pointer (some ⟨bp, 0, none⟩), .int .i64 (ws : Int), pv] w.drew fun e w' => e = .returned (.bool over) ∧ R w' ∧ Chg S w.drew w') :
    Calls Tryd.prog 23 #[.pointer (some ⟨br, 0, none⟩)] w (StepWPost br ws over R S w) := by
  have h1 : w.cell? ⟨br, 1, none⟩ = some (.iface 66 (.pointer (some ⟨bp, 0, none⟩))) := h.cell 1
  have h4 : w.cell? ⟨br, 4, none⟩ = some (.int .i64 (ws : Int)) := h.cell 4
  have h2 : w.cell? ⟨br, 2, none⟩ = some pv := h.cell 2
  have h6 : w.cell? ⟨br, 6, none⟩ = some (.bool true) := h.cell 6
  have hm := method_w66 ⟨bp, 0, none⟩
  have HC := Lib.hid hC
  clear hC
  go_enter Tryd.func23, Tryd.ntmps23
  go_wp2_with fail
  go_region_held3 (fun w' => w'.cell? ⟨br, 1, none⟩ = some (.iface 66 (.pointer (some ⟨bp, 0, none⟩))) ∧ w'.cell? ⟨br, 4, none⟩ = some (.int .i64 (ws : Int)) ∧ w'.cell? ⟨br, 2, none⟩ = some pv) (first | exact ⟨h1, h4, h2⟩ | (have hq := hch.out.blk h hS; exact ⟨hq.cell 1, hq.cell 4, hq.cell 2⟩))
    (first | (go_at_call 46; refine HC.out.mono ?_; rintro e w1 ⟨rfl, hR', hch'⟩; have hR := hid' hR'; have hch := hid' hch'; clear hR' hch'))
  have hq := hch.out.blk h hS
  have k4 : w1.cell? ⟨br, 4, none⟩ = some (.int .i64 (ws : Int)) := hq.cell 4
  have k6 : w1.cell? ⟨br, 6, none⟩ = some (.bool true) := hq.cell 6
  have f4 := hq.frozen 4
  have f6 := hq.frozen 6
  clear h1 h4 h2 h6 hm h hq
  go_wp2_with fail
  go_ret2
  exact ⟨rfl, ⟨w1, hR.out, ⟨hch.out.os, hch.out.tape, hch.out.output, hch.out.size, hch.out.block⟩, rfl⟩⟩

set_option maxRecDepth 20000 in
set_option maxHeartbeats 1000000 in
theorem stepR_core66 {w : World} {br bp : Nat} {pv : Value} {n ws rs ob m c : Nat} {wr over : Bool} {R : World → Prop} {S : Nat → Prop}
    (h : Blk w br 65 #[.int .i64 (n : Int), .iface 66 (.pointer (some ⟨bp, 0, none⟩)), pv, .slice (some ⟨ob, 0, none⟩) m c, .int .i64 (ws : Int), .int .i64 (rs : Int), .bool wr, .bool true]) (hS : ¬ S br) (hrs : rs ≤ 4200)
    (hC : Calls Tryd.prog 45 #[.pointer (some ⟨bp, 0, none⟩), .int .i64 (rs : Int), .slice (some ⟨ob, 0, none⟩) m c] w.drew fun e w' => e = .returned (.bool over) ∧ R w' ∧ Chg S w.drew w') :
    Calls Tryd.prog 21 #[.pointer (some ⟨br, 0, none⟩)] w (StepRPost br ob m c rs over R S w) := by
  have h1 : w.cell? ⟨br, 1, none⟩ = some (.iface 66 (.pointer (some ⟨bp, 0, none⟩))) := h.cell 1
  have h5 : w.cell? ⟨br, 5, none⟩ = some (.int .i64 (rs : Int)) := h.cell 5
  have h3 : w.cell? ⟨br, 3, none⟩ = some (.slice (some ⟨ob, 0, none⟩) m c) := h.cell 3
  have h7 : w.cell? ⟨br, 7, none⟩ = some (.bool true) := h.cell 7
  have hm := method_r66 ⟨bp, 0, none⟩
  have HC := Lib.hid hC
  clear hC
  cases over
  all_goals
    go_enter Tryd.func21, Tryd.ntmps21
    go_wp2_with fail
    go_region_held3 (fun w' => w'.cell? ⟨br, 1, none⟩ = some (.iface 66 (.pointer (some ⟨bp, 0, none⟩))) ∧ w'.cell? ⟨br, 5, none⟩ = some (.int .i64 (rs : Int)) ∧ w'.cell? ⟨br, 3, none⟩ = some (.slice (some ⟨ob, 0, none⟩) m c)) (first | exact ⟨h1, h5, h3⟩ | (have hq := hch.out.blk h hS; exact ⟨hq.cell 1, hq.cell 5, hq.cell 3⟩))
      (first | (go_at_call 45; refine HC.out.mono ?_; rintro e w1 ⟨rfl, hR', hch'⟩; have hR := hid' hR'; have hch := hid' hch'; clear hR' hch'))
    have hq := hch.out.blk h hS
    have k3 : w1.cell? ⟨br, 3, none⟩ = some (.slice (some ⟨ob, 0, none⟩) m c) := hq.cell 3
    have k5 : w1.cell? ⟨br, 5, none⟩ = some (.int .i64 (rs : Int)) := hq.cell 5
    have k7 : w1.cell? ⟨br, 7, none⟩ = some (.bool true) := hq.cell 7
    have f5 := hq.frozen 5
    have f7 := hq.frozen 7
    clear h1 h5 h3 h7 hm h hq
    go_wp2_with fail
    try (go_quiet (fail))
    go_wp2_with fail
    go_ret3
  · exact ⟨rfl, ⟨w1, 0, hR.out, ⟨hch.out.os, hch.out.tape, hch.out.output, hch.out.size, hch.out.block⟩, rfl⟩⟩
  · exact ⟨rfl, ⟨w1, _, hR.out, ⟨hch.out.os, hch.out.tape, hch.out.output, hch.out.size, hch.out.block⟩, rfl⟩⟩

theorem method_w76 (a : Addr) (w : World) : (method 232 76 (.pointer (some a)) "ratemill/reg.write").run Tryd.prog w = .ok (52, .pointer (some a)) w := by kernel_rfl
theorem method_r76 (a : Addr) (w : World) : (method 232 76 (.pointer (some a)) "ratemill/reg.read").run Tryd.prog w = .ok (51, .pointer (some a)) w := by kernel_rfl

set_option maxRecDepth 20000 in
set_option maxHeartbeats 1000000 in
theorem stepW_core76 {w : World} {br bp : Nat} {pv ov : Value} {n ws rs : Nat} {rd over : Bool} {R : World → Prop} {S : Nat → Prop}
    (h : Blk w br 65 #[.int .i64 (n : Int), .iface 76 (.pointer (some ⟨bp, 0, none⟩)), pv, ov, .int .i64 (ws : Int), .int .i64 (rs : Int), .bool true, .bool rd]) (hS : ¬ S br) (hws : ws ≤ 4200)
    (hC : Calls Tryd.prog 52 #[.pointer (some ⟨bp, 0, none⟩), .int .i64 (ws : Int), pv] w.drew fun e w' => e = .returned (.bool over) ∧ R w' ∧ Chg S w.drew w') :
    Calls Tryd.prog 23 #[.pointer (some ⟨br, 0, none⟩)] w (StepWPost br ws over R S w) := by
  have h1 : w.cell? ⟨br, 1, none⟩ = some (.iface 76 (.pointer (some ⟨bp, 0, none⟩))) := h.cell 1
  have h4 : w.cell? ⟨br, 4, none⟩ = some (.int .i64 (ws : Int)) := h.cell 4
  have h2 : w.cell? ⟨br, 2, none⟩ = some pv := h.cell 2
  have h6 : w.cell? ⟨br, 6, none⟩ = some (.bool true) := h.cell 6
  have hm := method_w76 ⟨bp, 0, none⟩
  have HC := Lib.hid hC
  clear hC
  go_enter Tryd.func23, Tryd.ntmps23
  go_wp2_with fail
  go_region_held3 (fun w' => w'.cell? ⟨br, 1, none⟩ = some (.iface 76 (.pointer (some ⟨bp, 0, none⟩))) ∧ w'.cell? ⟨br, 4, none⟩ = some (.int .i64 (ws : Int)) ∧ w'.cell? ⟨br, 2, none⟩ = some pv) (first | exact ⟨h1, h4, h2⟩ | (have hq := hch.out.blk h hS; exact ⟨hq.cell 1, hq.cell 4, hq.cell 2⟩))
    (first | (go_at_call 52; refine HC.out.mono ?_; rintro e w1 ⟨rfl, hR', hch'⟩; have hR := hid' hR'; have hch := hid' hch'; clear hR' hch'))
  have hq := hch.out.blk h hS
  have k4 : w1.cell? ⟨br, 4, none⟩ = some (.int .i64 (ws : Int)) := hq.cell 4
  have k6 : w1.cell? ⟨br, 6, none⟩ = some (.bool true) := hq.cell 6
  have f4 := hq.frozen 4
  have f6 := hq.frozen 6
  clear h1 h4 h2 h6 hm h hq
  go_wp2_with fail
  go_ret2
  exact ⟨rfl, ⟨w1, hR.out, ⟨hch.out.os, hch.out.tape, hch.out.output, hch.out.size, hch.out.block⟩, rfl⟩⟩

set_option maxRecDepth 20000 in
set_option maxHeartbeats 1000000 in
theorem stepR_core76 {w : World} {br bp : Nat} {pv : Value} {n ws rs ob m c : Nat} {wr over : Bool} {R : World → Prop} {S : Nat → Prop}
    (h : Blk w br 65 #[.int .i64 (n : Int), .iface 76 (.pointer (some ⟨bp, 0, none⟩)), pv, .slice (some ⟨ob, 0, none⟩) m c, .int .i64 (ws : Int), .int .i64 (rs : Int), .bool wr, .bool true]) (hS : ¬ S br) (hrs : rs ≤ 4200)
    (hC : Calls Tryd.prog 51 #[.pointer (some ⟨bp, 0, none⟩), .int .i64 (rs : Int), .slice (some ⟨ob, 0, none⟩) m c] w.drew fun e w' => e = .returned (.bool over) ∧ R w' ∧ Chg S w.drew w') :
    Calls Tryd.prog 21 #[.pointer (some ⟨br, 0, none⟩)] w (StepRPost br ob m c rs over R S w) := by
  have h1 : w.cell? ⟨br, 1, none⟩ = some (.iface 76 (.pointer (some ⟨bp, 0, none⟩))) := h.cell 1
  have h5 : w.cell? ⟨br, 5, none⟩ = some (.int .i64 (rs : Int)) := h.cell 5
  have h3 : w.cell? ⟨br, 3, none⟩ = some (.slice (some ⟨ob, 0, none⟩) m c) := h.cell 3
  have h7 : w.cell? ⟨br, 7, none⟩ = some (.bool true) := h.cell 7
  have hm := method_r76 ⟨bp, 0, none⟩
  have HC := Lib.hid hC
  clear hC
  cases over
  all_goals
    go_enter Tryd.func21, Tryd.ntmps21
    go_wp2_with fail
    go_region_held3 (fun w' => w'.cell? ⟨br, 1, none⟩ = some (.iface 76 (.pointer (some ⟨bp, 0, none⟩))) ∧ w'.cell? ⟨br, 5, none⟩ = some (.int .i64 (rs : Int)) ∧ w'.cell? ⟨br, 3, none⟩ = some (.slice (some ⟨ob, 0, none⟩) m c)) (first | exact ⟨h1, h5, h3⟩ | (have hq := hch.out.blk h hS; exact ⟨hq.cell 1, hq.cell 5, hq.cell 3⟩))
      (first | (go_at_call 51; refine HC.out.mono ?_; rintro e w1 ⟨rfl, hR', hch'⟩; have hR := hid' hR'; have hch := hid' hch'; clear hR' hch'))
    have hq := hch.out.blk h hS
    have k3 : w1.cell? ⟨br, 3, none⟩ = some (.slice (some ⟨ob, 0, none⟩) m c) := hq.cell 3
    have k5 : w1.cell? ⟨br, 5, none⟩ = some (.int .i64 (rs : Int)) := hq.cell 5
    have k7 : w1.cell? ⟨br, 7, none⟩ = some (.bool true) := hq.cell 7
    have f5 := hq.frozen 5
    have f7 := hq.frozen 7
    clear h1 h5 h3 h7 hm h hq
    go_wp2_with fail
    try (go_quiet (fail))
    go_wp2_with fail
    go_ret3
  · exact ⟨rfl, ⟨w1, 0, hR.out, ⟨hch.out.os, hch.out.tape, hch.out.output, hch.out.size, hch.out.block⟩, rfl⟩⟩
  · exact ⟨rfl, ⟨w1, _, hR.out, ⟨hch.out.os, hch.out.tape, hch.out.output, hch.out.size, hch.out.block⟩, rfl⟩⟩

theorem method_w84 (a : Addr) (w : World) : (method 232 84 (.pointer (some a)) "ratemill/reg.write").run Tryd.prog w = .ok (58, .pointer (some a)) w := by kernel_rfl
theorem method_r84 (a : Addr) (w : World) : (method 232 84 (.pointer (some a)) "ratemill/reg.read").run Tryd.prog w = .ok (57, .pointer (some a)) w := by kernel_rfl

set_option maxRecDepth 20000 in
set_option maxHeartbeats 1000000 in
theorem stepW_core84 {w : World} {br bp : Nat} {pv ov : Value} {n ws rs : Nat} {rd over : Bool} {R : World → Prop} {S : Nat → Prop}
    (h : Blk w br 65 #[.int .i64 (n : Int), .iface 84 (.pointer (some ⟨bp, 0, none⟩)), pv, ov, .int .i64 (ws : Int), .int .i64 (rs : Int), .bool true, .bool rd]) (hS : ¬ S br) (hws : ws ≤ 4200)
    (hC : Calls Tryd.prog 58 #[.pointer (some ⟨bp, 0, none⟩), .int .i64 (ws : Int), pv] w.drew fun e w' => e = .returned (.bool over) ∧ R w' ∧ Chg S w.drew w') :
    Calls Tryd.prog 23 #[.pointer (some ⟨br, 0, none⟩)] w (StepWPost br ws over R S w) := by
  have h1 : w.cell? ⟨br, 1, none⟩ = some (.iface 84 (.pointer (some ⟨bp, 0, none⟩))) := h.cell 1
  have h4 : w.cell? ⟨br, 4, none⟩ = some (.int .i64 (ws : Int)) := h.cell 4
  have h2 : w.cell? ⟨br, 2, none⟩ = some pv := h.cell 2
  have h6 : w.cell? ⟨br, 6, none⟩ = some (.bool true) := h.cell 6
  have hm := method_w84 ⟨bp, 0, none⟩
  have HC := Lib.hid hC
  clear hC
  go_enter Tryd.func23, Tryd.ntmps23
  go_wp2_with fail
  go_region_held3 (fun w' => w'.cell? ⟨br, 1, none⟩ = some (.iface 84 (.pointer (some ⟨bp, 0, none⟩))) ∧ w'.cell? ⟨br, 4, none⟩ = some (.int .i64 (ws : Int)) ∧ w'.cell? ⟨br, 2, none⟩ = some pv) (first | exact ⟨h1, h4, h2⟩ | (have hq := hch.out.blk h hS; exact ⟨hq.cell 1, hq.cell 4, hq.cell 2⟩))
    (first | (go_at_call 58; refine HC.out.mono ?_; rintro e w1 ⟨rfl, hR', hch'⟩; have hR := hid' hR'; have hch := hid' hch'; clear hR' hch'))
  have hq := hch.out.blk h hS
  have k4 : w1.cell? ⟨br, 4, none⟩ = some (.int .i64 (ws : Int)) := hq.cell 4
  have k6 : w1.cell? ⟨br, 6, none⟩ = some (.bool true) := hq.cell 6
  have f4 := hq.frozen 4
  have f6 := hq.frozen 6
  clear h1 h4 h2 h6 hm h hq
  go_wp2_with fail
  go_ret2
  exact ⟨rfl, ⟨w1, hR.out, ⟨hch.out.os, hch.out.tape, hch.out.output, hch.out.size, hch.out.block⟩, rfl⟩⟩

set_option maxRecDepth 20000 in
set_option maxHeartbeats 1000000 in
theorem stepR_core84 {w : World} {br bp : Nat} {pv : Value} {n ws rs ob m c : Nat} {wr over : Bool} {R : World → Prop} {S : Nat → Prop}
    (h : Blk w br 65 #[.int .i64 (n : Int), .iface 84 (.pointer (some ⟨bp, 0, none⟩)), pv, .slice (some ⟨ob, 0, none⟩) m c, .int .i64 (ws : Int), .int .i64 (rs : Int), .bool wr, .bool true]) (hS : ¬ S br) (hrs : rs ≤ 4200)
    (hC : Calls Tryd.prog 57 #[.pointer (some ⟨bp, 0, none⟩), .int .i64 (rs : Int), .slice (some ⟨ob, 0, none⟩) m c] w.drew fun e w' => e = .returned (.bool over) ∧ R w' ∧ Chg S w.drew w') :
    Calls Tryd.prog 21 #[.pointer (some ⟨br, 0, none⟩)] w (StepRPost br ob m c rs over R S w) := by
  have h1 : w.cell? ⟨br, 1, none⟩ = some (.iface 84 (.pointer (some ⟨bp, 0, none⟩))) := h.cell 1
  have h5 : w.cell? ⟨br, 5, none⟩ = some (.int .i64 (rs : Int)) := h.cell 5
  have h3 : w.cell? ⟨br, 3, none⟩ = some (.slice (some ⟨ob, 0, none⟩) m c) := h.cell 3
  have h7 : w.cell? ⟨br, 7, none⟩ = some (.bool true) := h.cell 7
  have hm := method_r84 ⟨bp, 0, none⟩
  have HC := Lib.hid hC
  clear hC
  cases over
  all_goals
    go_enter Tryd.func21, Tryd.ntmps21
    go_wp2_with fail
    go_region_held3 (fun w' => w'.cell? ⟨br, 1, none⟩ = some (.iface 84 (.pointer (some ⟨bp, 0, none⟩))) ∧ w'.cell? ⟨br, 5, none⟩ = some (.int .i64 (rs : Int)) ∧ w'.cell? ⟨br, 3, none⟩ = some (.slice (some ⟨ob, 0, none⟩) m c)) (first | exact ⟨h1, h5, h3⟩ | (have hq := hch.out.blk h hS; exact ⟨hq.cell 1, hq.cell 5, hq.cell 3⟩))
      (first | (go_at_call 57; refine HC.out.mono ?_; rintro e w1 ⟨rfl, hR', hch'⟩; have hR := hid' hR'; have hch := hid' hch'; clear hR' hch'))
    have hq := hch.out.blk h hS
    have k3 : w1.cell? ⟨br, 3, none⟩ = some (.slice (some ⟨ob, 0, none⟩) m c) := hq.cell 3
    have k5 : w1.cell? ⟨br, 5, none⟩ = some (.int .i64 (rs : Int)) := hq.cell 5
    have k7 : w1.cell? ⟨br, 7, none⟩ = some (.bool true) := hq.cell 7
    have f5 := hq.frozen 5
    have f7 := hq.frozen 7
    clear h1 h5 h3 h7 hm h hq
    go_wp2_with fail
    try (go_quiet (fail))
    go_wp2_with fail
    go_ret3
  · exact ⟨rfl, ⟨w1, 0, hR.out, ⟨hch.out.os, hch.out.tape, hch.out.output, hch.out.size, hch.out.block⟩, rfl⟩⟩
  · exact ⟨rfl, ⟨w1, _, hR.out, ⟨hch.out.os, hch.out.tape, hch.out.output, hch.out.size, hch.out.block⟩, rfl⟩⟩

end Go.Proofs.YtbdccfgeildebaaDoor
