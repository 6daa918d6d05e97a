/-
  reg.New, the second and the third kind. Conditions: the first words lie in a row; 0 < n ≤ 4096.
-/
import Derived.Test.YtbdccfgeildebaaDoorNew4
namespace Go.Proofs.YtbdccfgeildebaaDoor
open Go.RowKit Mem Abs

/-- The first k buffers are made. -/
structure Mk3 (w0 : World) (n k : Nat) (wr : World) : Prop where
  sz : wr.heap.size = w0.heap.size + 2 + k
  reg : Blk wr w0.heap.size 65 #[.int .i64 (n : Int), .nilIface, nils, nils, .int .i64 0, .int .i64 0, .bool false, .bool false]
  blk : Blk wr (w0.heap.size + 1) 82 (threeCells (sl4 w0.heap.size n k 0) (sl4 w0.heap.size n k 1) (sl4 w0.heap.size n k 2) 0 1 2 false)
  rows : ∀ j, j < k → Blk wr (w0.heap.size + 2 + j) 38 (u64s (List.replicate n 0))
  chg : Chg (fun _ => False) w0 wr

theorem Mk3.step {w0 wr : World} {n k : Nat} (h : Mk3 w0 n k wr) (hk : k < 3) : Mk3 w0 n (k + 1) (((wr.setCell ⟨w0.heap.size + 1, k, none⟩ (slc wr.heap.size n)).alloc (.cells (u64s (List.replicate n 0)) 38)).drew) := by
  have hs := h.sz
  refine ⟨by simp [World.setCell]; omega, (h.reg.far (by simp) _).alloc _, ?_, fun j hj => ?_, ((h.chg.setCell (.inr (by simp)) _).alloc _).drew⟩
  · have := ((h.blk.set_ k (slc wr.heap.size n)).alloc (.cells (u64s (List.replicate n 0)) 38)).drew
    rw [hs] at this ⊢
    rcases (by omega : k = 0 ∨ k = 1 ∨ k = 2) with rfl | rfl | rfl <;> simpa [threeCells, sl4] using this
  · by_cases e : j = k
    · subst e
      have := Blk.new (wr.setCell ⟨w0.heap.size + 1, j, none⟩ (slc wr.heap.size n)) 38 (u64s (List.replicate n 0))
      rwa [show (wr.setCell ⟨w0.heap.size + 1, j, none⟩ (slc wr.heap.size n)).heap.size = w0.heap.size + 2 + j by simp [World.setCell]; omega] at this
    · exact ((h.rows j (by omega)).far (by simp; omega) _).alloc _

set_option maxRecDepth 20000 in
set_option maxHeartbeats 4000000 in
theorem new_three (g n cap : Nat) (l : List Nat) (cur : Array Value) (w : World) (hrow : RowAt w g n l cur) (hn : 0 < n) (hsm : n ≤ 4096) :
    Calls Tryd.prog 18 #[.int .i64 2, .slice (some ⟨g, 0, none⟩) n cap] w fun e w' => e = .returned (.tuple #[.pointer (some ⟨w.heap.size, 0, none⟩), .nilIface]) ∧ RegOk w.heap.size w' w.heap.size (newSt 2 n l) ∧ Chg (fun _ => False) w w' := by
  have HR := hid' hrow
  have hmk := make_u64 n hsm
  have b1 : decide ((n : Int) < 1) = false := decide_eq_false (by omega)
  have b2 : decide ((4096 : Int) < (n : Int)) = false := decide_eq_false (by omega)
  have hn' := hid' hn
  have hsm' := hid' hsm
  have HB0 := hid' (show Blk ((w.alloc (.cells #[.int .i64 (n : Int), .nilIface, nils, nils, .int .i64 0, .int .i64 0, .bool false, .bool false] 65)).alloc (.cells (threeCells nils nils nils 0 1 0 false) 82)) (w.heap.size + 1) 82 (threeCells nils nils nils 0 1 0 false) from by
    have := Blk.new (w.alloc (.cells #[.int .i64 (n : Int), .nilIface, nils, nils, .int .i64 0, .int .i64 0, .bool false, .bool false] 65)) 82 (threeCells nils nils nils 0 1 0 false)
    have e : (w.alloc (.cells #[.int .i64 (n : Int), .nilIface, nils, nils, .int .i64 0, .int .i64 0, .bool false, .bool false] 65)).heap.size = w.heap.size + 1 := by simp
    rw [e] at this
    exact this)
  clear hrow hn hsm
  go_enter Tryd.func18, Tryd.ntmps18
  go_wp2_with (go_at_call 25; refine (storeu32 (w.heap.size + 1) 5 2 (.int .u32 0) _ (HB0.out.cell 5) (HB0.out.frozen 5)).mono ?_; rintro e w1 ⟨rfl, hw1⟩)
  go_loopw [98] (fun i wr => ∃ p : Nat, p ≤ 3 ∧ i = .int .i64 p ∧ Mk3 w n p wr) (fun i _ => 3 - (intOf i).toNat)
  case atStart =>
    subst hw1
    refine ⟨0, by omega, rfl, ⟨by simp [World.setCell], ((Blk.new w 65 _).alloc _).far (by simp) _, ?_, fun j hj => by omega, (((Chg.refl w).alloc _).alloc _).setCell (.inr (by simp)) _⟩⟩
    exact HB0.out.set_ 5 (.int .u32 2)
  case round =>
    obtain ⟨p, hp, rfl, hM⟩ := hrel
    have HM := hid' hM
    clear hM hw1
    rcases (by omega : p = 0 ∨ p = 1 ∨ p = 2 ∨ p = 3) with rfl | rfl | rfl | rfl
    · obtain ⟨old, hc⟩ : ∃ old, wr.cell? ⟨w.heap.size + 1, 0, none⟩ = some old := ⟨_, HM.out.blk.cell 0⟩
      have hf := HM.out.blk.frozen 0
      have hlt := HM.out.blk.lt
      go_wp2_with fail
      go_region
      all_goals (go_wp2_with fail; go_roundw)
      case rel => exact ⟨1, by omega, rfl, HM.out.step (by omega)⟩
      case measure => simp [intOf]
    · obtain ⟨old, hc⟩ : ∃ old, wr.cell? ⟨w.heap.size + 1, 1, none⟩ = some old := ⟨_, HM.out.blk.cell 1⟩
      have hf := HM.out.blk.frozen 1
      have hlt := HM.out.blk.lt
      go_wp2_with fail
      go_region
      all_goals (go_wp2_with fail; go_roundw)
      case rel => exact ⟨2, by omega, rfl, HM.out.step (by omega)⟩
      case measure => simp [intOf]
    · obtain ⟨old, hc⟩ : ∃ old, wr.cell? ⟨w.heap.size + 1, 2, none⟩ = some old := ⟨_, HM.out.blk.cell 2⟩
      have hf := HM.out.blk.frozen 2
      have hlt := HM.out.blk.lt
      go_wp2_with fail
      go_region
      all_goals (go_wp2_with fail; go_roundw)
      case rel => exact ⟨3, by omega, rfl, HM.out.step (by omega)⟩
      case measure => simp [intOf]
    · have c0 : wr.cell? ⟨w.heap.size + 1, 0, none⟩ = some (slc (w.heap.size + 2) n) := HM.out.blk.cell 0
      have hbl : Blk wr (w.heap.size + 2) 38 (u64s (List.replicate n 0)) := HM.out.rows 0 (by omega)
      have HB := hid' hbl
      have hR1 := HR.out.keep HM.out.chg (fun h => h)
      have hsrc : ∀ j v, (vals l)[j]? = some v → wr.cell? ((⟨g, 0, none⟩ : Addr).add j) = some v := by
        obtain ⟨ad, e, _, h⟩ := (hR1.reads (B := wr.heap.size) hR1.blk.lt).2 hn'.out
        cases e
        exact h
      have hlen : (vals l).length = Nat.min n n := by simp [vals_length, HR.out.len]
      have hfit : 0 + (vals l).length ≤ (u64s (List.replicate n 0)).size := by simp [vals_length, HR.out.len, u64s]
      have hwc := whole_copy l (List.replicate n 0) (by simp [HR.out.len])
      clear hR1
      have hcp := run_copy_row (P := Tryd.prog) wr 39 39 3 38 (w.heap.size + 2) 0 n n ⟨g, 0, none⟩ n cap (u64s (List.replicate n 0)) 38 (vals l) Tryd.underlying39 t_size38 hbl hlen hsrc hfit (vals_one _)
      rw [hwc] at hcp
      have hc2 := hid' (Chg.setRow (w := wr) (g := w.heap.size + 2) (u64s l))
      have hr2 := hid' (copied (l := l) HB.out)
      generalize wr.setRow (w.heap.size + 2) (u64s l) = w2 at hcp hc2 hr2
      have hg := hid' (hc2.out.blk HM.out.reg (by omega))
      have q1 : w2.cell? ⟨w.heap.size, 1, none⟩ = some .nilIface := hg.out.cell 1
      have f1 := hg.out.frozen 1
      clear hsrc hbl hlen hfit hwc
      go_wp2_with fail
      go_ret2
      have hg1 := hg.out.set_ 1 (.iface 76 (.pointer (some ⟨w.heap.size + 1, 0, none⟩)))
      have hc3 : Chg (· = w.heap.size) w2 (w2.setCell ⟨w.heap.size, 1, none⟩ (.iface 76 (.pointer (some ⟨w.heap.size + 1, 0, none⟩)))) := Chg.setCell (S := (· = w.heap.size)) (Chg.refl _) (.inl rfl) _
      have hcc : Chg (fun k => k = w.heap.size + 2 ∨ k = w.heap.size) wr _ := (hc2.out.mono fun _ _ h => .inl h).trans (hc3.mono fun _ _ h => .inr h)
      have hrw : ∀ j, 0 < j → j < 3 → Blk (w2.setCell ⟨w.heap.size, 1, none⟩ (.iface 76 (.pointer (some ⟨w.heap.size + 1, 0, none⟩)))) (w.heap.size + 2 + j) 38 (u64s (List.replicate n 0)) := fun j h0 hj => hcc.blk (HM.out.rows j (by omega)) (show ¬ (w.heap.size + 2 + j = w.heap.size + 2 ∨ w.heap.size + 2 + j = w.heap.size) from by omega)
      refine ⟨rfl, RegOk.make ⟨w.heap.size + 1, fun j => w.heap.size + 2 + j, nils, 0, nils, 0⟩ rfl rfl hg1 ⟨hcc.blk HM.out.blk (show ¬ (w.heap.size + 1 = w.heap.size + 2 ∨ w.heap.size + 1 = w.heap.size) from by omega), fun i hi => ?_, by omega, by omega, by omega⟩ ?_ (Nat.le_refl _) ?_ hn'.out hsm'.out, Chg.of_below ((HM.out.chg.below (Nat.le_refl _) (fun _ h => h.elim)).trans (hcc.below (by have := HM.out.sz; omega) fun k e => by rcases e with e | e <;> omega))⟩
      · by_cases e : i = 0
        · subst e
          exact ⟨hc3.blk hr2.out (show ¬ (w.heap.size + 2 = w.heap.size) from by omega), HR.out.len⟩
        · simp only [if_neg e]
          exact ⟨hrw i (by omega) hi, by simp [zeros]⟩
      · intro i j _ _ hne h
        simp at h
        omega
      · rintro k (rfl | ⟨i, _, rfl⟩)
        · simp
        · simp; omega

set_option maxRecDepth 20000 in
set_option maxHeartbeats 4000000 in
theorem new_one (g cap x : Nat) (cur : Array Value) (w : World) (hrow : RowAt w g 1 [x] cur) :
    Calls Tryd.prog 18 #[.int .i64 3, .slice (some ⟨g, 0, none⟩) 1 cap] w fun e w' => e = .returned (.tuple #[.pointer (some ⟨w.heap.size, 0, none⟩), .nilIface]) ∧ RegOk w.heap.size w' w.heap.size (newSt 3 1 [x]) ∧ Chg (fun _ => False) w w' := by
  have c0 : ((w.alloc (.cells #[.int .i64 1, .nilIface, nils, nils, .int .i64 0, .int .i64 0, .bool false, .bool false] 65)).alloc (.cells #[.int .u64 0] 89)).cell? ⟨g, 0, none⟩ = some (.int .u64 (x : Int)) := (hrow.keep (S := fun _ => False) (((Chg.refl w).alloc _).alloc _) (fun h => h)).cell 0 x rfl
  have HB0 := hid' (show Blk ((w.alloc (.cells #[.int .i64 1, .nilIface, nils, nils, .int .i64 0, .int .i64 0, .bool false, .bool false] 65)).alloc (.cells #[.int .u64 0] 89)) (w.heap.size + 1) 89 #[.int .u64 0] from by
    have := Blk.new (w.alloc (.cells #[.int .i64 1, .nilIface, nils, nils, .int .i64 0, .int .i64 0, .bool false, .bool false] 65)) 89 #[.int .u64 0]
    have e : (w.alloc (.cells #[.int .i64 1, .nilIface, nils, nils, .int .i64 0, .int .i64 0, .bool false, .bool false] 65)).heap.size = w.heap.size + 1 := by simp
    rw [e] at this
    exact this)
  have HG0 := hid' (show Blk ((w.alloc (.cells #[.int .i64 1, .nilIface, nils, nils, .int .i64 0, .int .i64 0, .bool false, .bool false] 65)).alloc (.cells #[.int .u64 0] 89)) w.heap.size 65 #[.int .i64 1, .nilIface, nils, nils, .int .i64 0, .int .i64 0, .bool false, .bool false] from (Blk.new w 65 _).alloc _)
  have HC0 := hid' (show Chg (fun _ => False) w ((w.alloc (.cells #[.int .i64 1, .nilIface, nils, nils, .int .i64 0, .int .i64 0, .bool false, .bool false] 65)).alloc (.cells #[.int .u64 0] 89)) from ((Chg.refl w).alloc _).alloc _)
  clear hrow
  go_enter Tryd.func18, Tryd.ntmps18
  go_upto_region 9 with (fail)
  generalize ((w.alloc (.cells #[.int .i64 1, .nilIface, nils, nils, .int .i64 0, .int .i64 0, .bool false, .bool false] 65)).alloc (.cells #[.int .u64 0] 89)) = w1 at c0 HB0 HG0 HC0 ⊢
  have z0 : w1.cell? ⟨w.heap.size + 1, 0, none⟩ = some (.int .u64 0) := HB0.out.cell 0
  have fz := HB0.out.frozen 0
  have q1 : w1.cell? ⟨w.heap.size, 1, none⟩ = some .nilIface := HG0.out.cell 1
  have f1 := HG0.out.frozen 1
  go_region_law (first | (go_simp; go_at_call 26; refine (storeu64 _ _ (x : Int) (.int .u64 0) _ ?_ ?_).mono ?_; (simp [*]); (simp [*]); rintro e w' ⟨rfl, rfl⟩))
  all_goals (go_wp2_with fail)
  all_goals go_ret2
  all_goals
    refine ⟨rfl, RegOk.make ⟨w.heap.size + 1, fun _ => 0, nils, 0, nils, 0⟩ rfl rfl (((HG0.out.far (p := ⟨w.heap.size + 1, 0, none⟩) (by simp) (.int .u64 (x : Int))).set_ 1 (.iface 84 (.pointer (some ⟨w.heap.size + 1, 0, none⟩)))).drew) ⟨((HB0.out.set_ 0 (.int .u64 (x : Int))).far (p := ⟨w.heap.size, 1, none⟩) (by simp) (.iface 84 (.pointer (some ⟨w.heap.size + 1, 0, none⟩)))).drew, rfl⟩ ?_ (Nat.le_refl _) ?_ (by omega) (by omega), ((HC0.out.setCell (.inr (by simp)) _).setCell (.inr (by simp)) _).drew⟩
    · intro i j hi
      simp [newP, nrow] at hi
    · rintro k (rfl | ⟨i, hi, rfl⟩)
      · simp
      · simp [newP, nrow] at hi
end Go.Proofs.YtbdccfgeildebaaDoor
