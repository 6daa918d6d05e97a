/-
  Untorn and Fresh: from the rows' argument to the script's cells. Condition: the argument's reading.
-/
import Derived.Test.YtbdccfgeildebaaDoorLaws
import Derived.Test.YtbdccfgeildebaaDoorNamesP
import Derived.Carry
import Derived.SizedLaws
namespace Go.Proofs.YtbdccfgeildebaaDoor
open Go.ChangeShapes Go.WideShapes Go.ChangeAt Go.RowKit Go.Deep Mem Mem.Wide

theorem t_wants23 : Tryd.checked.prog.wantsStandIn 23 = false := by kernel_rfl
theorem t_laidOut : laidOutB Tryd.prog = true := by kernel_rfl
theorem t_cells48 : Tryd.prog.cellsOf 48 = 7 := by kernel_rfl
theorem t_bytes48 : Tryd.prog.bytesOf 48 = 96 := by kernel_rfl
theorem t_underlying39 : Tryd.prog.underlying 39 = some (.slice 38) := by kernel_rfl

theorem script_of {H : Type} {enc : TypeId × Value → H} {W : World} {A : Option Addr} {n cap : Nat} {d : DataW H} {p : List MemPlace} (h : DataW.Trod enc Tryd.prog W 0 (fun _ => true) true 23 (.slice A n cap) d p)
    (hlt : ∀ x ∈ p, x.block < W.heap.size) (hsz : ∀ elems spare, d = .slice elems spare → (elems.length + spare.length) * Tryd.prog.bytesOf 48 ≤ reachBytes) :
    n ≤ 4398046511104 ∧ (n ≠ 0 → ∃ a, A = some a ∧ OpsAt W a n) := by
  obtain ⟨fuel, hd⟩ := h
  rcases open_slice_fields Tryd.underlying23 Tryd.underlying48 (by kernel_rfl) t_cells48 hd with ⟨e, _⟩ | ⟨a, len, cap', m, D, Pl, e, hb, hl, hm, hmm, hx, hi⟩
  · simp [Value.cells] at e
    obtain ⟨rfl, rfl, rfl⟩ := e
    exact ⟨by omega, fun h => absurd rfl h⟩
  · simp [Value.cells] at e
    obtain ⟨rfl, rfl, rfl⟩ := e
    simp only [if_true] at hmm
    obtain ⟨rfl, rfl⟩ := Prod.mk.inj hx
    have h1 := hsz _ _ rfl
    rw [t_bytes48] at h1
    simp only [List.length_map, List.length_range, reachBytes] at h1
    refine ⟨by omega, fun hn => ⟨a, rfl, hlt (.cell a.block a.off) ?_, fun i hin => ?_⟩⟩
    · refine List.mem_append_left _ (MemPlace.mem_row.2 ⟨0, ?_, by simp⟩)
      have : (7 : Nat) ≤ m * 7 := Nat.le_mul_of_pos_left 7 (by omega)
      exact Nat.lt_of_lt_of_le (by omega) this
    · obtain ⟨ys, k, _, _, _, hf⟩ := hi i (by omega)
      obtain ⟨v0, y0, c0, _, t0⟩ := hf 0 _ rfl
      obtain ⟨v1, y1, c1, _, t1⟩ := hf 1 _ rfl
      obtain ⟨v2, y2, c2, _, t2⟩ := hf 2 _ rfl
      obtain ⟨v3, y3, c3, _, t3⟩ := hf 3 _ rfl
      obtain ⟨v4, y4, c4, _, _⟩ := hf 4 _ rfl
      obtain ⟨v5, y5, c5, _, _⟩ := hf 5 _ rfl
      obtain ⟨v6, y6, c6, _, t6⟩ := hf 6 _ rfl
      obtain ⟨kd, e0, _, _⟩ := DataW.trod_int Tryd.underlying3 t0
      obtain ⟨av, e1, _, _⟩ := DataW.trod_int Tryd.underlying3 t1
      obtain ⟨bv, e2, _, _⟩ := DataW.trod_int Tryd.underlying3 t2
      obtain ⟨cv, e3, _, _⟩ := DataW.trod_int Tryd.underlying3 t3
      have e6 : ∃ uA ul uc, v6 = .slice uA ul uc := by
        rcases open_slice Tryd.underlying39 t6 with ⟨e, _⟩ | ⟨a6, l6, k6, m6, n6, D6, P6, e, _⟩
        · exact ⟨none, 0, 0, by simpa using e⟩
        · exact ⟨some a6, l6, k6, by simpa using e⟩
      obtain ⟨uA, ul, uc, rfl⟩ := e6
      simp only [List.cons.injEq, and_true] at e0 e1 e2 e3
      subst e0 e1 e2 e3
      have c0' : W.cell? (a.add (i * 7)) = some (.int .i64 kd) := c0
      have sh : ∀ (j : Nat) (u : Value), W.cell? (a.add (i * 7 + (j + 1))) = some u → W.cell? ⟨(a.add (i * 7)).block, (a.add (i * 7)).off + (j + 1), none⟩ = some u := fun j u hc => by
        rw [← Go.Deep.add_add] at hc
        exact hc
      exact ⟨kd, av, bv, cv, v4, v5, uA, ul, uc, c0', sh 0 _ c1, sh 1 _ c2, sh 2 _ c3, sh 3 _ c4, sh 4 _ c5, sh 5 _ c6⟩
end Go.Proofs.YtbdccfgeildebaaDoor
