/-
  handing: a script's walk. Conditions: the script's cells are there; it is shorter than 2^42 steps.
-/
import Derived.Test.YtbdccfgeildebaaDoorPick
import Derived.Test.YtbdccfgeildebaaDoorHand
import Derived.Deep.DeepCutAuto
import Derived.Deep.CutBlock
namespace Go.Proofs.YtbdccfgeildebaaDoor
open Go.RowKit Mem Abs

/-- The cells of a script's step. -/
def OpAt (w : World) (p : Addr) : Prop :=
  ∃ (kd av bv cv : Int) (sv lv : Value) (uA : Option Addr) (ul uc : Nat), w.cell? p = some (.int .i64 kd) ∧ w.cell? ⟨p.block, p.off + 1, none⟩ = some (.int .i64 av) ∧ w.cell? ⟨p.block, p.off + 2, none⟩ = some (.int .i64 bv) ∧ w.cell? ⟨p.block, p.off + 3, none⟩ = some (.int .i64 cv) ∧ w.cell? ⟨p.block, p.off + 4, none⟩ = some sv ∧ w.cell? ⟨p.block, p.off + 5, none⟩ = some lv ∧ w.cell? ⟨p.block, p.off + 6, none⟩ = some (.slice uA ul uc)
structure OpsAt (w : World) (a : Addr) (n : Nat) : Prop where
  lt : a.block < w.heap.size
  at_ : ∀ i, i < n → OpAt w (a.add (i * 7))

theorem add_block (a : Addr) (i : Nat) : (a.add i).block = a.block := by unfold Addr.add; split <;> rfl

theorem OpsAt.below {w w' : World} {a : Addr} {n : Nat} (h : OpsAt w a n) {B : Nat} (hb : Below B w w') (hB : a.block < B) {i : Nat} (hi : i < n) : OpAt w' (a.add (i * 7)) := by
  obtain ⟨kd, av, bv, cv, sv, lv, uA, ul, uc, h0, h1, h2, h3, h4, h5, h6⟩ := h.at_ i hi
  have hlt : (a.add (i * 7)).block < B := by rw [add_block]; exact hB
  have key : ∀ q : Addr, q.block < B → w'.cell? q = w.cell? q := fun q hq => hb.cell hq
  exact ⟨kd, av, bv, cv, sv, lv, uA, ul, uc, (key _ hlt).trans h0, (key ⟨(a.add (i * 7)).block, (a.add (i * 7)).off + 1, none⟩ hlt).trans h1, (key ⟨(a.add (i * 7)).block, (a.add (i * 7)).off + 2, none⟩ hlt).trans h2, (key ⟨(a.add (i * 7)).block, (a.add (i * 7)).off + 3, none⟩ hlt).trans h3, (key ⟨(a.add (i * 7)).block, (a.add (i * 7)).off + 4, none⟩ hlt).trans h4, (key ⟨(a.add (i * 7)).block, (a.add (i * 7)).off + 5, none⟩ hlt).trans h5, (key ⟨(a.add (i * 7)).block, (a.add (i * 7)).off + 6, none⟩ hlt).trans h6⟩

theorem wr64 (x : Int) : ∃ c, wrap64 x = c ∧ -9223372036854775808 ≤ c ∧ c ≤ 9223372036854775807 := ⟨_, rfl, by unfold wrap64; omega, by unfold wrap64; omega⟩
theorem pick3 (c : Int) (w : World) (h1 : -9223372036854775808 ≤ c) (h2 : c ≤ 9223372036854775807) : Calls Tryd.prog 15 #[.int .i64 c, .int .i64 3] w (PickPost 3 w) := pick_calls c 3 w h1 h2 (by omega) (by omega)
theorem pick40 (c : Int) (w : World) (h1 : -9223372036854775808 ≤ c) (h2 : c ≤ 9223372036854775807) : Calls Tryd.prog 15 #[.int .i64 c, .int .i64 40] w (PickPost 40 w) := pick_calls c 40 w h1 h2 (by omega) (by omega)

def HandingPost (w : World) (e : Ending) (w' : World) : Prop :=
  ∃ bh n h, e = .returned (.tuple #[.pointer (some ⟨bh, 0, none⟩), .bool true]) ∧ Blk w' bh 28 (handCells n h) ∧ Below w.heap.size w w'

set_option maxRecDepth 20000 in
set_option maxHeartbeats 400000 in
theorem handing_calls {f : Nat → Addr} (A : Option Addr) (n cap : Nat) (w : World) (hB : Base f w w.heap.size) (hops : n ≠ 0 → ∃ a, A = some a ∧ OpsAt w a n) (hn : n ≤ 4398046511104) :
    Calls Tryd.prog 8 #[.slice A n cap] w (HandingPost w) := by
  have HB := hid' hB
  have HO := hid' hops
  have hn0 := hid' hn
  have hn1 : (n : Int) ≤ 4398046511104 := by omega
  clear hB hops hn
  go_enter Tryd.func8, Tryd.ntmps8
  go_upto_block 0 with (fail)
  go_cut [4] (fun k wx => ∃ (kind m : Nat), k = .int .i64 kind ∧ 1 ≤ kind ∧ kind ≤ 3 ∧ 1 ≤ m ∧ m ≤ 40 ∧ Blk wx w.heap.size 28 (handCells m ⟨0, 0, 0, 0⟩) ∧ Chg (fun _ => False) w wx)
  case first =>
    go_wp2_with fail
    go_loopw [4, 6] (fun k i wr => ∃ (j kind m : Nat), j ≤ n ∧ i = .int .i64 j ∧ k = .int .i64 kind ∧ 1 ≤ kind ∧ kind ≤ 3 ∧ 1 ≤ m ∧ m ≤ 40 ∧ Blk wr w.heap.size 28 (handCells m ⟨0, 0, 0, 0⟩) ∧ Chg (fun _ => False) w wr) (fun _ i _ => n - (intOf i).toNat)
    case atStart => exact ⟨0, 1, 3, by omega, rfl, rfl, by omega, by omega, by omega, by omega, Blk.new w 28 _, (Chg.refl w).alloc _⟩
    case round =>
      obtain ⟨j, kind, m, hj, rfl, rfl, hk1, hk2, hm1, hm2, hb', hch'⟩ := hrel
      have hb := hid' hb'
      have hch := hid' hch'
      clear hb' hch'
      by_cases hlt : j < n
      · obtain ⟨a, rfl, hops⟩ := HO.out (by omega)
        obtain ⟨kd, av, bv, cv, sv, lv, uA, ul, uc, h0, h1, h2, h3, h4, h5, h6⟩ := hops.below (hch.out.below (B := w.heap.size) (Nat.le_refl _) fun _ h => h.elim) hops.lt hlt
        clear hops
        have q0 : wr.cell? ⟨w.heap.size, 0, none⟩ = some (.int .i64 (m : Int)) := hb.out.cell 0
        have f0 := hb.out.frozen 0
        by_cases e13 : kd = 13
        · subst e13
          obtain ⟨c1, hc1, ha1, hb1⟩ := wr64 (av - 1)
          obtain ⟨c2, hc2, ha2, hb2⟩ := wr64 ((ul : Int) - 1)
          go_wp2_with fail
          refine (pick3 c1 _ ha1 hb1).mono ?_
          rintro e w1 ⟨r, hr, rfl, rfl⟩
          have r1 : (0 : Int) ≤ (r : Int) := by omega
          have r2 : (r : Int) < 3 := by omega
          have r3 : IntKind.i64.wrap (1 + (r : Int)) = 1 + (r : Int) := IntWalk.i64_in _ (by omega)
          clear ha1 hb1
          go_wp2_with fail
          refine (pick40 c2 _ ha2 hb2).mono ?_
          rintro e w1 ⟨s, hs, rfl, rfl⟩
          have s1 : (0 : Int) ≤ (s : Int) := by omega
          have s2 : (s : Int) < 40 := by omega
          have s3 : IntKind.i64.wrap (1 + (s : Int)) = 1 + (s : Int) := IntWalk.i64_in _ (by omega)
          go_wp2_with fail
          go_meet
          exact ⟨1 + r, 1 + s, by go_num, by omega, by omega, by omega, by omega, by have := hb.out.set_ 0 (.int .i64 (1 + (s : Int))); simpa [handCells] using this, hch.out.setCell (.inr (Nat.le_refl _)) _⟩
        · have ek : (kd == 13) = false := by simpa using e13
          go_wp2_with fail
          go_roundw
          case rel => exact ⟨j + 1, kind, m, by omega, by go_num, rfl, hk1, hk2, hm1, hm2, hb.out, hch.out⟩
          case measure => simp [intOf]; omega
      · obtain rfl : j = n := by omega
        go_wp2_with fail
        go_meet
        exact ⟨kind, m, rfl, hk1, hk2, hm1, hm2, hb.out, hch.out⟩
  case rest =>
    obtain ⟨kind, m, rfl, hk1, hk2, hm1, hm2, hb', hch'⟩ := hcut
    have hb := hid' hb'
    have hch := hid' hch'
    clear hb' hch'
    go_upto_if 45 with fail
    go_cut [] (fun wx => ∃ m : Nat, 1 ≤ m ∧ m ≤ 40 ∧ (kind = 3 → m = 1) ∧ Blk wx w.heap.size 28 (handCells m ⟨0, 0, 0, 0⟩) ∧ Chg (fun _ => False) w wx)
    case first =>
      have q0 : wc.cell? ⟨w.heap.size, 0, none⟩ = some (.int .i64 (m : Int)) := hb.out.cell 0
      have f0 := hb.out.frozen 0
      by_cases e3 : kind = 3
      · subst e3
        go_wp2_with fail
        go_meet
        exact ⟨1, by omega, by omega, fun _ => rfl, hb.out.set_ 0 (.int .i64 1), hch.out.setCell (.inr (Nat.le_refl _)) _⟩
      · have e4 : ((kind : Int) == 3) = false := beq_eq_false_iff_ne.2 (by omega)
        have e5 : ¬ ((kind : Int) = 3) := by omega
        go_wp2_with fail
        go_meet
        exact ⟨m, hm1, hm2, fun e => absurd e e3, hb.out, hch.out⟩
    case rest =>
      clear hm1 hm2 hb hch
      obtain ⟨m, hm1, hm2, hm3', hb', hch'⟩ := hcut
      have hb := hid' hb'
      have hch := hid' hch'
      have hm3 := hid' hm3'
      clear hb' hch' hm3'
      have hlt0 := hb.out.lt
      have PC := hid' (show Calls Tryd.prog 16 #[.pointer (some ⟨w.heap.size, 0, none⟩), .int .i64 0] wc (PayPost 0 m wc) from payload_calls w.heap.size 0 m wc (hb.out.cell 0) (by omega) (by omega) (by omega))
      have hk1' := hid' hk1
      have hk2' := hid' hk2
      have hm1' := hid' hm1
      have hm2' := hid' hm2
      clear hk1 hk2 hm1 hm2
      go_wp2_with fail
      refine PC.out.mono ?_
      rintro e w1 ⟨g2, cap2, cur2, rfl, hg2', hr2', hcp'⟩
      have hcp := hid' hcp'
      have RC := hid' (register_calls kind g2 m cap2 (payload 0 m) cur2 w1 hk1'.out hk2'.out hm3.out hr2' (by have := hm1'.out; omega) (by have := hm2'.out; omega))
      clear hg2' hr2' hcp'
      go_wp2_with fail
      refine RC.out.mono ?_
      rintro e w2 ⟨br, rfl, hbr', hreg', hc2'⟩
      have HW := hid' (show HWs w w.heap.size br m (newSt kind m (payload 0 m)) ⟨0, 0, 0, 0⟩ w2 from
        ⟨hc2'.blk (hcp.out.blk hb.out (fun h => h)) (fun h => h), RegOk.lower hreg' (by have := hcp.out.size; omega), Inv.new kind m (by have := hm1'.out; omega) (fun a b => hm3.out (by have := hk1'.out; have := hk2'.out; omega)), rfl,
          ((hch.out.trans hcp.out).trans hc2').below (Nat.le_refl _) (fun _ h => h.elim), by have := hcp.out.size; have := hc2'.size; omega⟩)
      clear hbr' hreg' hc2' hlt0
      go_wp2_with fail
      go_loopw [9] (fun i wr => ∃ (j : Nat) (σ : St) (h : Hs), j ≤ n ∧ i = .int .i64 j ∧ HWs w w.heap.size br m σ h wr ∧ h.begun ≤ j) (fun i _ => n - (intOf i).toNat)
      case atStart => exact ⟨0, _, _, by omega, rfl, HW.out, Nat.le_refl _⟩
      case round =>
        obtain ⟨j, σ, h, hj, rfl, hw', hbe'⟩ := hrel
        have hw := hid' hw'
        have hbe := hid' hbe'
        clear hw' hbe'
        have j1 : (j : Int) ≤ 4398046511104 := by have := hn0.out; omega
        have j2 : decide ((j : Int) < 1152921504606846976) = true := decide_eq_true (by omega)
        by_cases hlt : j < n
        · obtain ⟨a, rfl, hops⟩ := HO.out (by omega)
          obtain ⟨kd, av, bv, cv, sv, lv, uA, ul, uc, h0, h1, h2, h3, h4, h5, h6⟩ := hops.below hw.out.low hops.lt hlt
          clear hops
          have HC := hid' (hand_calls kd (.int .i64 av) (.int .i64 bv) (.int .i64 cv) sv lv (.slice uA ul uc) HB.out hw.out (by have := hbe.out; have := hn0.out; omega))
          go_wp2_with fail
          refine HC.out.mono ?_
          rintro e w3 ⟨rfl, σ', h', hw2', hbe2'⟩
          have hw2 := hid' hw2'
          have hbe2 := hid' hbe2'
          clear hw2' hbe2'
          go_wp2_with fail
          go_roundw
          case rel => exact ⟨j + 1, σ', h', by omega, by go_num, hw2.out, by have := hbe.out; have := hbe2.out; omega⟩
          case measure => simp [intOf]; omega
        · obtain rfl : j = n := by omega
          go_wp2_with fail
          go_ret2
          exact ⟨w.heap.size, m, h, rfl, hw.out.hands, hw.out.low⟩
end Go.Proofs.YtbdccfgeildebaaDoor
