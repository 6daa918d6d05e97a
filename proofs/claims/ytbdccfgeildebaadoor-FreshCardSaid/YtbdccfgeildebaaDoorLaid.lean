/-
  What the row's listed sentinels give: one address each, all different, each in a block that is not frozen. No condition beside the row's own list.
-/
import Derived.Test.YtbdccfgeildebaaDoorRows
import Derived.LaidLaws
import Derived.LaidHandle
import Derived.MakeChecks
import Derived.ChangeVars
import Derived.ProofKit
namespace Go.Proofs.YtbdccfgeildebaaDoor
open Go.ChangeShapes Go.WideShapes Go.RowKit

theorem t_name99 : Tryd.prog.typeName? 3 99 = some "*errors.errorString" := by kernel_rfl
theorem t_cells129 : Tryd.prog.cellsOf 129 = 1 := by kernel_rfl
theorem t_cells9 : Tryd.prog.cellsOf 9 = 1 := by kernel_rfl
theorem t_star : "*" ++ "errors.errorString" = "*errors.errorString" := by decide
theorem t_row99 (u : TypeId) (h : Tryd.prog.typeName? 3 u = some "*errors.errorString") : u = 99 :=
  typeName_ptr_named (nm := "errors.errorString") (by rw [t_star]; kernel_rfl) (by kernel_rfl) (by decide) u (by rw [t_star]; exact h)

/-- The datum of a sentinel. -/
def errD (text : List UInt8) : DataW Unit := .iface "*errors.errorString" (.ptr (.agg [.lit (.string text)]))

/-- The place of an address. -/
def placeOf (a : Addr) : MemPlace := .cell a.block a.off

set_option maxRecDepth 100000 in
theorem addrs_of {W : World} : ∀ (l : List (String × DataW Unit)) (ps : List MemPlace), DataW.LaidVars Tryd.prog W l ps →
    (∀ x ∈ l, ∃ text, x.2 = errD text) → (∀ x ∈ l, ∀ g, Tryd.prog.globalNamed x.1 = some g → (Tryd.prog.globals[g]?).map (·.type) = some 33) →
    (∀ b off, MemPlace.cell b off ∈ ps → (∃ c t, W.heap[b]? = some (.cells c t (0, 0))) ∧ ∀ u v, W.cell? ⟨b, off, none⟩ = some (.iface u v) → Value.okWide Tryd.prog W .any 0 u v) →
    ∃ ads : List Addr, ads.length = l.length ∧ (∀ (i : Nat) (x : String × DataW Unit), l[i]? = some x → ∃ a, ads[i]? = some a ∧ W.var? Tryd.prog x.1 = some #[.iface 99 (.pointer (some a))]) ∧
      (∀ a ∈ ads, a.spot = none ∧ ∃ c t, W.heap[a.block]? = some (.cells c t (0, 0))) ∧ (ads.map placeOf).Sublist ps
  | [], ps, h, _, _, _ => by
    have h' : ps = [] := h
    subst h'
    exact ⟨[], rfl, fun i x hx => by simp at hx, fun a ha => (by simp at ha), by simp⟩
  | (n, d) :: r, ps, h, herr, hty, hrows => by
    obtain ⟨g, t, cs, fuel, p, q, hg, ht, hv, hd, hq, rfl⟩ := h
    obtain ⟨text, e⟩ := herr (n, d) (List.mem_cons_self ..)
    obtain rfl : d = errD text := e
    have ht' : t = 33 := Option.some.inj (ht.symm.trans (hty _ (List.mem_cons_self ..) g hg))
    subst ht'
    obtain ⟨l0⟩ := cs
    have ok0 : ∀ u v, l0 = [.iface u v] → Value.okWide Tryd.prog W .any 0 u v := fun u v e => by
      subst e
      exact (hrows g 0 (by simp [MemPlace.row])).2 u v (by simpa using World.var?_cell hg hv 0)
    obtain ⟨a, s, rfl, hc, hs, hz, rfl⟩ := errorString_of_trod Tryd.underlying33 t_row99 Tryd.underlying99 Tryd.underlying129 rfl rfl Tryd.underlying9 t_cells129 t_cells9 hd ok0
    obtain ⟨ads, hl, hat, hb, hsub⟩ := addrs_of r q hq (fun x hx => herr x (List.mem_cons_of_mem _ hx)) (fun x hx => hty x (List.mem_cons_of_mem _ hx)) (fun b off hm => hrows b off (by simp [hm]))
    refine ⟨a :: ads, by simp [hl], fun i x hx => ?_, fun a' ha' => ?_, ?_⟩
    · cases i with
      | zero =>
        simp at hx
        subst hx
        exact ⟨a, by simp, hv⟩
      | succ i =>
        simp only [List.getElem?_cons_succ] at hx ⊢
        exact hat i x hx
    · rcases List.mem_cons.1 ha' with rfl | h'
      · refine ⟨?_, (hrows a'.block a'.off (by simp [MemPlace.row])).1⟩
        unfold World.cell? at hc
        split at hc
        · split at hc
          · cases hc
          · rename_i hsp
            simpa using hsp
        · cases hc
      · exact hb a' h'
    · simp only [List.map_cons, placeOf, List.append_assoc]
      refine List.Sublist.trans ?_ (List.sublist_append_right _ _)
      simpa [MemPlace.row, placeOf] using List.Sublist.cons_cons (placeOf a) hsub

theorem ne_of_sub {ads : List Addr} {ps : List MemPlace} (hs : (ads.map placeOf).Sublist ps) (hn : ps.Nodup) (i j : Nat) (a b : Addr) (ha : ads[i]? = some a) (hb : ads[j]? = some b) (hij : i ≠ j) : a ≠ b := by
  have h := hs.nodup hn
  rintro rfl
  have hi : i < ads.length := (List.getElem?_eq_some_iff.1 ha).1
  have hj : j < ads.length := (List.getElem?_eq_some_iff.1 hb).1
  have e1 : ads[i] = a := (List.getElem?_eq_some_iff.1 ha).2
  have e2 : ads[j] = a := (List.getElem?_eq_some_iff.1 hb).2
  have := (List.nodup_iff_pairwise_ne.1 h)
  rw [List.pairwise_iff_getElem] at this
  rcases Nat.lt_or_ge i j with hlt | hge
  · exact this i j (by simpa using hi) (by simpa using hj) hlt (by simp [e1, e2])
  · exact this j i (by simpa using hj) (by simpa using hi) (by omega) (by simp [e1, e2])

end Go.Proofs.YtbdccfgeildebaaDoor
