/-
  plain.all, plain.Different and ratemilllaw.Names return true wherever the listed sentinels hold different pointers. No condition beside that.
-/
import Derived.Test.YtbdccfgeildebaaDoorLaid
import Derived.Test.YtbdccfgeildebaaDoorMem
import Derived.WalkKit
import Derived.WalkSpells
import Derived.WalkLawsBesides
import Derived.LaidEql
import Derived.Deep.RegionHeld3
import Derived.Deep.DeepCutAuto
import Derived.Deep.LoopGhost
import Derived.Lib.Hide
namespace Go.Proofs.YtbdccfgeildebaaDoor
open Go.RowKit Mem

/-- The first n package-level variables hold pointers f 0, f 1, .. -/
def Sent (w : World) (n : Nat) (f : Nat → Addr) : Prop :=
  ∀ i, i < n → w.cell? ⟨i, 0, none⟩ = some (.iface 99 (.pointer (some (f i)))) 

theorem Sent.lt {w : World} {n : Nat} {f : Nat → Addr} (h : Sent w n f) {i : Nat} (hi : i < n) : i < w.heap.size :=
  World.block_lt_of_cell? w _ (h i hi)
theorem Sent.alloc {w : World} {n : Nat} {f : Nat → Addr} (h : Sent w n f) (o : Obj) : Sent (w.alloc o) n f :=
  fun i hi => (World.cell?_alloc_lt w o ⟨i, 0, none⟩ (h.lt hi)).trans (h i hi)
theorem Sent.drew {w : World} {n : Nat} {f : Nat → Addr} (h : Sent w n f) : Sent w.drew n f := h

/-- The row that 'all' lays. -/
def allRow (f : Nat → Addr) : Array Value := #[.iface 99 (.pointer (some (f 4))), .iface 99 (.pointer (some (f 5))), .iface 99 (.pointer (some (f 6))), .iface 99 (.pointer (some (f 7))), .iface 99 (.pointer (some (f 8))), .iface 99 (.pointer (some (f 9))), .iface 99 (.pointer (some (f 10))), .iface 99 (.pointer (some (f 11))), .iface 99 (.pointer (some (f 12))), .iface 99 (.pointer (some (f 13))), .iface 99 (.pointer (some (f 14))), .iface 99 (.pointer (some (f 15))), .iface 99 (.pointer (some (f 16)))]

set_option maxHeartbeats 1000000 in
theorem all_calls (f : Nat → Addr) (w : World) (h : Sent w 17 f) :
    Calls Tryd.prog 9 #[] w fun e w' => e = .returned (.slice (some ⟨w.heap.size, 0, none⟩) 13 13) ∧ w.alloc (.cells (allRow f) 33) = w' := by
  have h4 := h 4 (by omega)
  have h5 := h 5 (by omega)
  have h6 := h 6 (by omega)
  have h7 := h 7 (by omega)
  have h8 := h 8 (by omega)
  have h9 := h 9 (by omega)
  have h10 := h 10 (by omega)
  have h11 := h 11 (by omega)
  have h12 := h 12 (by omega)
  have h13 := h 13 (by omega)
  have h14 := h 14 (by omega)
  have h15 := h 15 (by omega)
  have h16 := h 16 (by omega)
  clear h
  go_enter Tryd.func9, Tryd.ntmps9
  go_wp2
  go_ret
  exact ⟨rfl, rfl⟩

theorem keepS {f : Nat → Addr} {w' : World} (h : Sent w' 17 f) : w'.cell? ⟨0, 0, none⟩ = some (.iface 99 (.pointer (some (f 0)))) ∧ w'.cell? ⟨1, 0, none⟩ = some (.iface 99 (.pointer (some (f 1)))) ∧ w'.cell? ⟨2, 0, none⟩ = some (.iface 99 (.pointer (some (f 2)))) ∧ w'.cell? ⟨3, 0, none⟩ = some (.iface 99 (.pointer (some (f 3)))) ∧ Sent w' 17 f :=
  ⟨h 0 (by omega), h 1 (by omega), h 2 (by omega), h 3 (by omega), h⟩

/-- What the two lists look like in memory. -/
structure Lists (f : Nat → Addr) (w wx : World) (g g0 g1 : Nat) : Prop where
  below : Below w.heap.size w wx
  c0 : wx.cell? ⟨g, 0, none⟩ = some (.slice (some ⟨g0, 0, none⟩) 13 13)
  c1 : wx.cell? ⟨g, 1, none⟩ = some (.slice (some ⟨g1, 0, none⟩) 4 4)
  r0 : ∀ k, k < 13 → wx.cell? ⟨g0, k, none⟩ = some (.iface 99 (.pointer (some (f (k + 4)))))
  r1 : ∀ k, k < 4 → wx.cell? ⟨g1, k, none⟩ = some (.iface 99 (.pointer (some (f k))))

def regRow (f : Nat → Addr) : Array Value := #[.iface 99 (.pointer (some (f 0))), .iface 99 (.pointer (some (f 1))), .iface 99 (.pointer (some (f 2))), .iface 99 (.pointer (some (f 3)))]

theorem allRow_at (f : Nat → Addr) (k : Nat) (hk : k < 13) : (allRow f)[k]? = some (.iface 99 (.pointer (some (f (k + 4))))) := by
  have : k = 0 ∨ k = 1 ∨ k = 2 ∨ k = 3 ∨ k = 4 ∨ k = 5 ∨ k = 6 ∨ k = 7 ∨ k = 8 ∨ k = 9 ∨ k = 10 ∨ k = 11 ∨ k = 12 := by omega
  rcases this with rfl | rfl | rfl | rfl | rfl | rfl | rfl | rfl | rfl | rfl | rfl | rfl | rfl <;> rfl
theorem regRow_at (f : Nat → Addr) (k : Nat) (hk : k < 4) : (regRow f)[k]? = some (.iface 99 (.pointer (some (f k)))) := by
  have : k = 0 ∨ k = 1 ∨ k = 2 ∨ k = 3 := by omega
  rcases this with rfl | rfl | rfl | rfl <;> rfl

theorem lists_of {f : Nat → Addr} {w wx : World} {g g0 g1 : Nat} (hb : Below w.heap.size w wx) (h0 : Blk wx g0 33 (allRow f)) (h1 : Blk wx g1 33 (regRow f))
    (hg : Blk wx g 30 #[.slice (some ⟨g0, 0, none⟩) 13 13, .slice (some ⟨g1, 0, none⟩) 4 4]) : Lists f w wx g g0 g1 :=
  ⟨hb, (hg.cell 0).trans rfl, (hg.cell 1).trans rfl, fun k hk => (h0.cell k).trans (allRow_at f k hk), fun k hk => (h1.cell k).trans (regRow_at f k hk)⟩

theorem lists_one (f : Nat → Addr) (w : World) :
    Lists f w (((w.alloc (.cells (allRow f) 33)).alloc (.cells (regRow f) 33)).alloc (.cells #[.slice (some ⟨w.heap.size, 0, none⟩) 13 13, .slice (some ⟨w.heap.size + 1, 0, none⟩) 4 4] 30)) (w.heap.size + 1 + 1) w.heap.size (w.heap.size + 1) :=
  lists_of ((((Below.refl _ _).alloc (Nat.le_refl _) _).alloc (by simp) _).alloc (by simp; omega) _) (((Blk.new w 33 _).alloc _).alloc _)
    (by have := (Blk.new (w.alloc (.cells (allRow f) 33)) 33 (regRow f)).alloc (.cells #[.slice (some ⟨w.heap.size, 0, none⟩) 13 13, .slice (some ⟨w.heap.size + 1, 0, none⟩) 4 4] 30); simpa using this)
    (by have := Blk.new ((w.alloc (.cells (allRow f) 33)).alloc (.cells (regRow f) 33)) 30 #[.slice (some ⟨w.heap.size, 0, none⟩) 13 13, .slice (some ⟨w.heap.size + 1, 0, none⟩) 4 4]; simpa using this)

theorem lists_two (f : Nat → Addr) (w : World) :
    Lists f w (((w.alloc (.cells (regRow f) 33)).alloc (.cells (allRow f) 33)).alloc (.cells #[.slice (some ⟨w.heap.size + 1, 0, none⟩) 13 13, .slice (some ⟨w.heap.size, 0, none⟩) 4 4] 30)) (w.heap.size + 1 + 1) (w.heap.size + 1) w.heap.size :=
  lists_of ((((Below.refl _ _).alloc (Nat.le_refl _) _).alloc (by simp) _).alloc (by simp; omega) _)
    (by have := (Blk.new (w.alloc (.cells (regRow f) 33)) 33 (allRow f)).alloc (.cells #[.slice (some ⟨w.heap.size + 1, 0, none⟩) 13 13, .slice (some ⟨w.heap.size, 0, none⟩) 4 4] 30); simpa using this)
    (((Blk.new w 33 _).alloc _).alloc _)
    (by have := Blk.new ((w.alloc (.cells (regRow f) 33)).alloc (.cells (allRow f) 33)) 30 #[.slice (some ⟨w.heap.size + 1, 0, none⟩) 13 13, .slice (some ⟨w.heap.size, 0, none⟩) 4 4]; simpa using this)

theorem Lists.drew {f : Nat → Addr} {w wx : World} {g g0 g1 : Nat} (h : Lists f w wx g g0 g1) : Lists f w wx.drew g g0 g1 :=
  ⟨h.below.drew, h.c0, h.c1, h.r0, h.r1⟩

/-- Every address of the first n stands in a block of its own making that is not frozen; different ones differ. -/
structure Apart17 (w : World) (n : Nat) (f : Nat → Addr) : Prop where
  ne : ∀ i j, i < n → j < n → i ≠ j → f i ≠ f j
  blk : ∀ i, i < n → ∃ c t, w.heap[(f i).block]? = some (.cells c t (0, 0))

theorem Apart17.lt {w : World} {n : Nat} {f : Nat → Addr} (h : Apart17 w n f) (i : Nat) (hi : i < n) : (f i).block < w.heap.size := by
  obtain ⟨c, t, hb⟩ := h.blk i hi
  rcases Nat.lt_or_ge (f i).block w.heap.size with h | h
  · exact h
  · simp [Array.getElem?_eq_none h] at hb

theorem Apart17.below {w wx : World} {n B : Nat} {f : Nat → Addr} (h : Apart17 w n f) (hb : Below B w wx) (hB : w.heap.size ≤ B) : Apart17 wx n f :=
  ⟨h.ne, fun i hi => by
    obtain ⟨c, t, e⟩ := h.blk i hi
    exact ⟨c, t, (hb.block _ (Nat.lt_of_lt_of_le (h.lt i hi) hB)).trans e⟩⟩

theorem t_comp99 : (Tryd.prog.info? 99).map (·.comparable) = some true := by kernel_rfl
theorem t_size129 : (Tryd.prog.info? 129).map (·.size) = some 1 := by kernel_rfl

/-- Two sentinels held against each other. -/
theorem eql_other {w : World} {n : Nat} {f : Nat → Addr} (h : Apart17 w n f) (i j : Nat) (hi : i < n) (hj : j < n) (hij : i ≠ j) :
    (binOp .eql 33 (.iface 99 (.pointer (some (f i)))) (.iface 99 (.pointer (some (f j))))).run Tryd.prog w = .ok (.bool false) w := by
  obtain ⟨i0, hi0, hcmp⟩ := Option.map_eq_some_iff.1 t_comp99
  obtain ⟨j0, hj0, hjs⟩ := Option.map_eq_some_iff.1 t_size129
  obtain ⟨c0, t0, b0⟩ := h.blk i hi
  obtain ⟨c1, t1, b1⟩ := h.blk j hj
  exact run_eql_iface_ptr_other w Tryd.underlying33 Tryd.underlying99 hi0 hcmp hj0 (by rw [hjs]; decide) (h.ne i j hi hj hij) b0 b1
theorem eql_same {w : World} (a : Addr) :
    (binOp .eql 33 (.iface 99 (.pointer (some a))) (.iface 99 (.pointer (some a)))).run Tryd.prog w = .ok (.bool true) w := by
  obtain ⟨i0, hi0, hcmp⟩ := Option.map_eq_some_iff.1 t_comp99
  obtain ⟨j0, hj0, _⟩ := Option.map_eq_some_iff.1 t_size129
  exact run_eql_iface_ptr_same w a Tryd.underlying33 Tryd.underlying99 hi0 hcmp hj0

/-- One of the two lists: its block, how many, and what it holds. -/
structure OneList (f : Nat → Addr) (wx : World) (g k : Nat) (b n : Nat) (h : Nat → Nat) : Prop where
  cell : wx.cell? ⟨g, k, none⟩ = some (.slice (some ⟨b, 0, none⟩) n n)
  small : n ≤ 13
  row : ∀ j, j < n → wx.cell? ⟨b, j, none⟩ = some (.iface 99 (.pointer (some (f (h j)))))
  lt : ∀ j, j < n → h j < 17
  inj : ∀ i j, i ≠ j → h i ≠ h j

theorem Lists.one {f : Nat → Addr} {w wx : World} {g g0 g1 : Nat} (hl : Lists f w wx g g0 g1) (k : Nat) (hk : k < 2) : ∃ b n h, OneList f wx g k b n h := by
  rcases (by omega : k = 0 ∨ k = 1) with rfl | rfl
  · exact ⟨g0, 13, fun j => j + 4, hl.c0, by omega, hl.r0, fun j hj => by show j + 4 < 17; omega, fun i j h => by show i + 4 ≠ j + 4; omega⟩
  · exact ⟨g1, 4, fun j => j, hl.c1, by omega, hl.r1, fun j hj => by show j < 17; omega, fun i j h => h⟩

set_option maxHeartbeats 1000000 in
set_option maxRecDepth 100000 in
theorem different_calls (f : Nat → Addr) (w : World) (h : Sent w 17 f) (ha : Apart17 w 17 f) :
    Calls Tryd.prog 6 #[] w fun e w' => e = .returned (.bool true) ∧ Below w.heap.size w w' := by
  have h0 := h 0 (by omega)
  have h1 := h 1 (by omega)
  have h2 := h 2 (by omega)
  have h3 := h 3 (by omega)
  go_enter Tryd.func6, Tryd.ntmps6
  go_upto_region 1 with fail
  go_cut [12, 13, 14] (fun s12 s13 s14 wx => ∃ g g0 g1, s12 = .slice (some ⟨g, 0, none⟩) 2 2 ∧ s13 = .int .i64 2 ∧ s14 = .int .i64 0 ∧ Lists f w wx g g0 g1)
  case first =>
    go_region_held3 (fun w' => w'.cell? ⟨0, 0, none⟩ = some (.iface 99 (.pointer (some (f 0)))) ∧ w'.cell? ⟨1, 0, none⟩ = some (.iface 99 (.pointer (some (f 1)))) ∧ w'.cell? ⟨2, 0, none⟩ = some (.iface 99 (.pointer (some (f 2)))) ∧ w'.cell? ⟨3, 0, none⟩ = some (.iface 99 (.pointer (some (f 3)))) ∧ Sent w' 17 f)
      (first | exact keepS h.drew | (go_split_ands; exact keepS (Sent.alloc (by assumption) _)) | go_keep)
      (first | (go_at_call 9; refine (all_calls f _ ?_).mono ?_; (simp [*]); rintro e w' ⟨rfl, rfl⟩))
    all_goals (go_wp2_with fail; go_meet)
    · exact ⟨_, _, _, rfl, rfl, rfl, (lists_one f w).drew⟩
    · exact ⟨_, _, _, rfl, rfl, rfl, (lists_two f w).drew⟩
  case rest =>
    obtain ⟨g, g0, g1, rfl, rfl, rfl, hl⟩ := hcut
    have hap := ha.below hl.below (Nat.le_refl _)
    have hbel := hl.below
    clear h h0 h1 h2 h3 ha
    go_wp2_with fail
    go_loop [14] (fun s => ∃ k : Nat, k ≤ 2 ∧ s = .int .i64 k) (fun s => 2 - (intOf s).toNat)
    case atStart => exact ⟨0, by omega, rfl⟩
    case round =>
      obtain ⟨k, hk, rfl⟩ := hrel
      by_cases hlt : k < 2
      · obtain ⟨b, n, h, ho⟩ := hl.one k hlt
        have hc := ho.cell
        have hn := ho.small
        go_wp2_with fail
        go_loop [20] (fun s => ∃ i : Nat, i ≤ n ∧ s = .int .i64 i) (fun s => n - (intOf s).toNat)
        case atStart => exact ⟨0, by omega, rfl⟩
        case round =>
          obtain ⟨i, hi, rfl⟩ := hrel
          by_cases hil : i < n
          · have hci := ho.row i hil
            go_wp2_with fail
            go_loop [5] (fun s => ∃ j : Nat, j ≤ i ∧ s = .int .i64 j) (fun s => i - (intOf s).toNat)
            case atStart => exact ⟨0, by omega, rfl⟩
            case round =>
              obtain ⟨j, hj, rfl⟩ := hrel
              by_cases hjl : j < i
              · have hcj := ho.row j (by omega)
                have he := eql_other hap (h j) (h i) (ho.lt j (by omega)) (ho.lt i hil) (ho.inj j i (by omega))
                go_wp2_with fail
                go_round
                case rel => exact ⟨j + 1, by omega, by go_num⟩
                case measure => simp [intOf]; omega
              · go_wp2_with fail
                go_round
                case rel => exact ⟨i + 1, by omega, by go_num⟩
                case measure => simp [intOf]; omega
          · go_wp2_with fail
            go_round
            case rel => exact ⟨k + 1, by omega, by go_num⟩
            case measure => simp [intOf]; omega
      · go_wp2_with fail
        go_ret
        exact ⟨rfl, hbel⟩
end Go.Proofs.YtbdccfgeildebaaDoor
