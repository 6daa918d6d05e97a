/-
  reg.New, the first kind. Conditions: the first words lie in a row; 0 < n ≤ 4096.
-/
import Derived.Test.YtbdccfgeildebaaDoorHandW
import Derived.Laws.CopyOwn
namespace Go.Proofs.YtbdccfgeildebaaDoor
open Go.RowKit Mem Abs

abbrev nils : Value := .slice none 0 0
def sl4 (S n k j : Nat) : Value := if j < k then slc (S + 2 + j) n else nils

/-- The first k rows are made. -/
structure Mk4 (w0 : World) (n k : Nat) (wr : World) : Prop where
  sz : wr.heap.size = w0.heap.size + 2 + k
  reg : Blk wr w0.heap.size 65 #[.int .i64 (n : Int), .nilIface, nils, nils, .int .i64 0, .int .i64 0, .bool false, .bool false]
  blk : Blk wr (w0.heap.size + 1) 75 (fourCells (sl4 w0.heap.size n k 0) (sl4 w0.heap.size n k 1) (sl4 w0.heap.size n k 2) (sl4 w0.heap.size n k 3) false false false false false false false false)
  rows : ∀ j, j < k → Blk wr (w0.heap.size + 2 + j) 38 (u64s (List.replicate n 0))
  chg : Chg (fun _ => False) w0 wr

theorem t_size38 : (Tryd.prog.info? 38).map (·.size) = some 1 := by kernel_rfl

theorem Chg.setRow {w : World} {g : Nat} (cs : Array Value) : Chg (· = g) w (w.setRow g cs) :=
  ⟨rfl, rfl, rfl, by simp [World.setRow], fun k _ hk => setRow_other w g k cs hk⟩

theorem whole_copy (l z : List Nat) (h : z.length = l.length) : (((u64s z).toList.take 0 ++ vals l ++ (u64s z).toList.drop (0 + (vals l).length)).toArray) = u64s l := by
  rw [List.drop_eq_nil_of_le (by simp [u64s, vals, h])]
  simp [u64s, vals]

theorem copied {w : World} {g : Nat} {l z : List Nat} (hb : Blk w g 38 (u64s z)) : Blk (w.setRow g (u64s l)) g 38 (u64s l) := setRow_heap w g _ _ 38 _ hb

/-- A register that is new. -/
theorem RegOk.make {B : Nat} {w : World} {br kind n : Nat} {l : List Nat} (L : Lay) (hp : L.pv = nils) (ho : L.ov = nils) (hr : Blk w br 65 #[.int .i64 (n : Int), .iface (ptrTy (newP kind n l)) (.pointer (some ⟨L.bp, 0, none⟩)), nils, nils, .int .i64 0, .int .i64 0, .bool false, .bool false])
    (hpw : ProtW w L n (newP kind n l)) (hs : Sep L (newP kind n l)) (hB : B ≤ br) (hlow : ∀ k, Own L (newP kind n l) k → B ≤ k) (h0 : 0 < n) (hn : n ≤ 4096) : RegOk B w br (newSt kind n l) :=
  ⟨L, by rw [regCells, hp, ho]; exact hr, hpw, hs, fun e => by simp [newSt] at e, fun e => by simp [newSt] at e, hB, hlow, h0, hn, fun e => by simp [newSt] at e, fun e => by simp [newSt] at e⟩

theorem Mk4.step {w0 wr : World} {n k : Nat} (h : Mk4 w0 n k wr) (hk : k < 4) : Mk4 w0 n (k + 1) (((wr.setCell ⟨w0.heap.size + 1, k, none⟩ (slc wr.heap.size n)).alloc (.cells (u64s (List.replicate n 0)) 38)).drew) := by
  have hs := h.sz
  refine ⟨by simp [World.setCell]; omega, (h.reg.far (by simp) _).alloc _, ?_, fun j hj => ?_, ((h.chg.setCell (.inr (by simp)) _).alloc _).drew⟩
  · have := ((h.blk.set_ k (slc wr.heap.size n)).alloc (.cells (u64s (List.replicate n 0)) 38)).drew
    rw [hs] at this ⊢
    rcases (by omega : k = 0 ∨ k = 1 ∨ k = 2 ∨ k = 3) with rfl | rfl | rfl | rfl <;> simpa [fourCells, sl4] using this
  · by_cases e : j = k
    · subst e
      have := Blk.new (wr.setCell ⟨w0.heap.size + 1, j, none⟩ (slc wr.heap.size n)) 38 (u64s (List.replicate n 0))
      rwa [show (wr.setCell ⟨w0.heap.size + 1, j, none⟩ (slc wr.heap.size n)).heap.size = w0.heap.size + 2 + j by simp [World.setCell]; omega] at this
    · exact ((h.rows j (by omega)).far (by simp; omega) _).alloc _

set_option maxRecDepth 20000 in
set_option maxHeartbeats 4000000 in
theorem new_four (g n cap : Nat) (l : List Nat) (cur : Array Value) (w : World) (hrow : RowAt w g n l cur) (hn : 0 < n) (hsm : n ≤ 4096) :
    Calls Tryd.prog 18 #[.int .i64 1, .slice (some ⟨g, 0, none⟩) n cap] w fun e w' => e = .returned (.tuple #[.pointer (some ⟨w.heap.size, 0, none⟩), .nilIface]) ∧ RegOk w.heap.size w' w.heap.size (newSt 1 n l) ∧ Chg (fun _ => False) w w' := by
  have HR := hid' hrow
  have hmk := make_u64 n hsm
  have b1 : decide ((n : Int) < 1) = false := decide_eq_false (by omega)
  have b2 : decide ((4096 : Int) < (n : Int)) = false := decide_eq_false (by omega)
  have hn' := hid' hn
  have hsm' := hid' hsm
  clear hrow hn hsm
  go_enter Tryd.func18, Tryd.ntmps18
  go_wp2_with fail
  go_loopw [60] (fun i wr => ∃ p : Nat, p ≤ 2 ∧ i = .int .i64 p ∧ Mk4 w n (2 * p) wr) (fun i _ => 2 - (intOf i).toNat)
  case atStart =>
    refine ⟨0, by omega, rfl, ⟨by simp, (Blk.new w 65 _).alloc _, ?_, fun j hj => by omega, ((Chg.refl w).alloc _).alloc _⟩⟩
    have := Blk.new (w.alloc (.cells #[.int .i64 (n : Int), .nilIface, nils, nils, .int .i64 0, .int .i64 0, .bool false, .bool false] 65)) 75 (fourCells nils nils nils nils false false false false false false false false)
    have e : (w.alloc (.cells #[.int .i64 (n : Int), .nilIface, nils, nils, .int .i64 0, .int .i64 0, .bool false, .bool false] 65)).heap.size = w.heap.size + 1 := by simp
    rw [e] at this
    exact this
  case round =>
    obtain ⟨p, hp, rfl, hM⟩ := hrel
    have HM := hid' hM
    clear hM
    rcases (by omega : p = 0 ∨ p = 1 ∨ p = 2) with rfl | rfl | rfl
    · go_wp2_with fail
      go_loopw [63] (fun i wr2 => ∃ q : Nat, q ≤ 2 ∧ i = .int .i64 q ∧ Mk4 w n (0 + q) wr2) (fun i _ => 2 - (intOf i).toNat)
      case atStart => exact ⟨0, by omega, rfl, HM.out⟩
      case round =>
        obtain ⟨q, hq, rfl, hM2'⟩ := hrel
        have HM2 := hid' hM2'
        clear hM2'
        rcases (by omega : q = 0 ∨ q = 1 ∨ q = 2) with rfl | rfl | rfl
        · obtain ⟨old, hc⟩ : ∃ old, wr.cell? ⟨w.heap.size + 1, 0, none⟩ = some old := ⟨_, HM2.out.blk.cell 0⟩
          have hf := HM2.out.blk.frozen 0
          have hlt := HM2.out.blk.lt
          go_wp2_with fail
          go_region
          all_goals (go_wp2_with fail; go_roundw)
          case rel => exact ⟨1, by omega, rfl, (HM2.out.step (by omega))⟩
          case measure => simp [intOf]
        · obtain ⟨old, hc⟩ : ∃ old, wr.cell? ⟨w.heap.size + 1, 1, none⟩ = some old := ⟨_, HM2.out.blk.cell 1⟩
          have hf := HM2.out.blk.frozen 1
          have hlt := HM2.out.blk.lt
          go_wp2_with fail
          go_region
          all_goals (go_wp2_with fail; go_roundw)
          case rel => exact ⟨2, by omega, rfl, (HM2.out.step (by omega))⟩
          case measure => simp [intOf]
        · go_wp2_with fail
          go_roundw
          case rel => exact ⟨1, by omega, rfl, HM2.out⟩
          case measure => simp [intOf]
    · go_wp2_with fail
      go_loopw [63] (fun i wr2 => ∃ q : Nat, q ≤ 2 ∧ i = .int .i64 q ∧ Mk4 w n (2 + q) wr2) (fun i _ => 2 - (intOf i).toNat)
      case atStart => exact ⟨0, by omega, rfl, HM.out⟩
      case round =>
        obtain ⟨q, hq, rfl, hM2'⟩ := hrel
        have HM2 := hid' hM2'
        clear hM2'
        rcases (by omega : q = 0 ∨ q = 1 ∨ q = 2) with rfl | rfl | rfl
        · obtain ⟨old, hc⟩ : ∃ old, wr.cell? ⟨w.heap.size + 1, 2, none⟩ = some old := ⟨_, HM2.out.blk.cell 2⟩
          have hf := HM2.out.blk.frozen 2
          have hlt := HM2.out.blk.lt
          go_wp2_with fail
          go_region
          all_goals (go_wp2_with fail; go_roundw)
          case rel => exact ⟨1, by omega, rfl, (HM2.out.step (by omega))⟩
          case measure => simp [intOf]
        · obtain ⟨old, hc⟩ : ∃ old, wr.cell? ⟨w.heap.size + 1, 3, none⟩ = some old := ⟨_, HM2.out.blk.cell 3⟩
          have hf := HM2.out.blk.frozen 3
          have hlt := HM2.out.blk.lt
          go_wp2_with fail
          go_region
          all_goals (go_wp2_with fail; go_roundw)
          case rel => exact ⟨2, by omega, rfl, (HM2.out.step (by omega))⟩
          case measure => simp [intOf]
        · go_wp2_with fail
          go_roundw
          case rel => exact ⟨2, by omega, rfl, HM2.out⟩
          case measure => simp [intOf]
    · have c0 : wr.cell? ⟨w.heap.size + 1, 0, none⟩ = some (slc (w.heap.size + 2) n) := HM.out.blk.cell 0
      have hbl : Blk wr (w.heap.size + 2) 38 (u64s (List.replicate n 0)) := HM.out.rows 0 (by omega)
      have HB := hid' hbl
      have hR1 := HR.out.keep HM.out.chg (fun h => h)
      have hsrc : ∀ j v, (vals l)[j]? = some v → wr.cell? ((⟨g, 0, none⟩ : Addr).add j) = some v := by
        obtain ⟨ad, e, _, h⟩ := (hR1.reads (B := wr.heap.size) hR1.blk.lt).2 hn'.out
        cases e
        exact h
      have hlen : (vals l).length = Nat.min n n := by simp [vals_length, HR.out.len]
      have hfit : 0 + (vals l).length ≤ (u64s (List.replicate n 0)).size := by simp [vals_length, HR.out.len, u64s]
      have hwc := whole_copy l (List.replicate n 0) (by simp [HR.out.len])
      clear hR1
      have hcp := run_copy_row (P := Tryd.prog) wr 39 39 3 38 (w.heap.size + 2) 0 n n ⟨g, 0, none⟩ n cap (u64s (List.replicate n 0)) 38 (vals l) Tryd.underlying39 t_size38 hbl hlen hsrc hfit (vals_one _)
      rw [hwc] at hcp
      have hc2 := hid' (Chg.setRow (w := wr) (g := w.heap.size + 2) (u64s l))
      have hr2 := hid' (copied (l := l) HB.out)
      generalize wr.setRow (w.heap.size + 2) (u64s l) = w2 at hcp hc2 hr2
      have hg := hid' (hc2.out.blk HM.out.reg (by omega))
      have q1 : w2.cell? ⟨w.heap.size, 1, none⟩ = some .nilIface := hg.out.cell 1
      have f1 := hg.out.frozen 1
      clear hsrc hbl hlen hfit hwc
      go_wp2_with fail
      go_ret2
      have hg1 := hg.out.set_ 1 (.iface 66 (.pointer (some ⟨w.heap.size + 1, 0, none⟩)))
      have hc3 : Chg (· = w.heap.size) w2 (w2.setCell ⟨w.heap.size, 1, none⟩ (.iface 66 (.pointer (some ⟨w.heap.size + 1, 0, none⟩)))) := Chg.setCell (S := (· = w.heap.size)) (Chg.refl _) (.inl rfl) _
      have hcc : Chg (fun k => k = w.heap.size + 2 ∨ k = w.heap.size) wr _ := (hc2.out.mono fun _ _ h => .inl h).trans (hc3.mono fun _ _ h => .inr h)
      have hrw : ∀ j, 0 < j → j < 4 → Blk (w2.setCell ⟨w.heap.size, 1, none⟩ (.iface 66 (.pointer (some ⟨w.heap.size + 1, 0, none⟩)))) (w.heap.size + 2 + j) 38 (u64s (List.replicate n 0)) := fun j h0 hj => hcc.blk (HM.out.rows j (by omega)) (show ¬ (w.heap.size + 2 + j = w.heap.size + 2 ∨ w.heap.size + 2 + j = w.heap.size) from by omega)
      refine ⟨rfl, RegOk.make ⟨w.heap.size + 1, fun j => w.heap.size + 2 + j, nils, 0, nils, 0⟩ rfl rfl hg1 ⟨hcc.blk HM.out.blk (show ¬ (w.heap.size + 1 = w.heap.size + 2 ∨ w.heap.size + 1 = w.heap.size) from by omega), fun p q => ?_⟩ ?_ (Nat.le_refl _) ?_ hn'.out hsm'.out, Chg.of_below ((HM.out.chg.below (Nat.le_refl _) (fun _ h => h.elim)).trans (hcc.below (by have := HM.out.sz; omega) fun k e => by rcases e with e | e <;> omega))⟩
      · cases p <;> cases q
        · exact ⟨hc3.blk hr2.out (show ¬ (w.heap.size + 2 = w.heap.size) from by omega), HR.out.len⟩
        · exact ⟨hrw 1 (by omega) (by omega), by simp [zeros]⟩
        · exact ⟨hrw 2 (by omega) (by omega), by simp [zeros]⟩
        · exact ⟨hrw 3 (by omega) (by omega), by simp [zeros]⟩
      · intro i j _ _ hne h
        simp at h
        omega
      · rintro k (rfl | ⟨i, _, rfl⟩)
        · simp
        · simp; omega
end Go.Proofs.YtbdccfgeildebaaDoor
