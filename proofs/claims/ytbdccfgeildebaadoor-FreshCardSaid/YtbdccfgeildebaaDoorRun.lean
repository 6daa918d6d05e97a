/-
  The plain machine, hand over hand: a whole reading reads what the register holds; a whole writing leaves what was written. No program in sight. Condition: rows of one word.
-/
import Derived.Test.YtbdccfgeildebaaDoorPlain
namespace Go.Proofs.YtbdccfgeildebaaDoor.Abs

def HoldsP (v : Nat) : Prot → Prop
  | .four rows latest _ slot _ _ _ _ => rows latest (slot latest) = [v] ∧ ∀ p q, (rows p q).length = 1
  | .three rows front back mid fresh => rows (if fresh then mid else front) = [v] ∧ (∀ i, i < 3 → (rows i).length = 1) ∧ front ≠ back ∧ mid ≠ back ∧ front ≠ mid ∧ front < 3 ∧ back < 3 ∧ mid < 3
  | .one w => w = v

def Holds (v : Nat) (σ : St) : Prop := σ.n = 1 ∧ σ.rd = false ∧ σ.wr = false ∧ HoldsP v σ.p

def ReadsTo (v : Nat) : Nat → St → Prop
  | 0, _ => False
  | k + 1, σ => σ.n = 1 ∧ σ.rd = true ∧ ((σ.overR = true ∧ σ.stepR.out = [v] ∧ Holds v σ.stepR) ∨ (σ.overR = false ∧ ReadsTo v k σ.stepR))

def WritesTo (x : Nat) : Nat → St → Prop
  | 0, _ => False
  | k + 1, σ => σ.n = 1 ∧ σ.wr = true ∧ ((σ.overW = true ∧ Holds x σ.stepW) ∨ (σ.overW = false ∧ WritesTo x k σ.stepW))

theorem holds_read {v : Nat} {σ : St} (h : Holds v σ) : ReadsTo v 4 σ.read := by
  obtain ⟨n, pay, out, ws, rs, wr, rd, p⟩ := σ
  obtain ⟨h1, h2, h3, hp⟩ := h
  simp only at h1 h2 h3
  subst h1 h2 h3
  cases p with
  | four rows latest reading slot wp wq rp rq =>
    obtain ⟨e, hl⟩ := hp
    simp [ReadsTo, St.read, St.stepR, St.overR, protR, Holds, HoldsP, e, hl]
  | three rows front back mid fresh =>
    obtain ⟨e, hl, a, b, c, d, f, g⟩ := hp
    cases fresh
    · simp at e
      simp [ReadsTo, St.read, St.stepR, St.overR, protR, Holds, HoldsP, e, a, b, c, d, f, g]
      exact hl
    · simp at e
      simp [ReadsTo, St.read, St.stepR, St.overR, protR, Holds, HoldsP, e, a, b, d, f, g]
      first
        | exact ⟨hl, fun h => c h.symm⟩
        | exact fun h => c h.symm
        | (refine ⟨hl, ?_⟩; exact fun h => c h.symm)
  | one w =>
    obtain rfl : w = v := hp
    simp [ReadsTo, St.read, St.stepR, St.overR, protR, Holds, HoldsP]

theorem set_one (l : List Nat) (x : Nat) (h : l.length = 1) : l.set 0 x = [x] := by
  rcases l with _ | ⟨y, _ | ⟨z, r⟩⟩ <;> simp at h ⊢

theorem holds_write {v : Nat} {σ : St} (x : Nat) (h : Holds v σ) : WritesTo x 5 (σ.write [x]) := by
  obtain ⟨n, pay, out, ws, rs, wr, rd, p⟩ := σ
  obtain ⟨h1, h2, h3, hp⟩ := h
  simp only at h1 h2 h3
  subst h1 h2 h3
  cases p with
  | four rows latest reading slot wp wq rp rq =>
    obtain ⟨e, hl⟩ := hp
    simp [WritesTo, St.write, St.stepW, St.overW, protW, Holds, HoldsP, upd, upd2, set_one, hl]
    refine ⟨⟨?_, ?_⟩, ?_, ?_⟩ <;> split <;> simp [hl]
  | three rows front back mid fresh =>
    obtain ⟨e, hl, a, b, c, d, f, g⟩ := hp
    simp [WritesTo, St.write, St.stepW, St.overW, protW, Holds, HoldsP, updN, set_one, hl, d, f, g]
    refine ⟨fun i hi => ?_, c, fun h => b h.symm, a⟩
    split <;> simp [hl, hi]
  | one w =>
    simp [WritesTo, St.write, St.stepW, St.overW, protW, Holds, HoldsP]

theorem holds_new (kind v : Nat) : Holds v (newSt kind 1 [v]) := by
  refine ⟨rfl, rfl, rfl, ?_⟩
  show HoldsP v (newP kind 1 [v])
  unfold newP
  split
  · refine ⟨by simp, fun p q => ?_⟩
    show (if p = false ∧ q = false then [v] else zeros 1).length = 1
    split <;> simp [zeros]
  · split
    · refine ⟨by simp, fun i _ => ?_, by omega, by omega, by omega, by omega, by omega, by omega⟩
      show (if i = 0 then [v] else zeros 1).length = 1
      split <;> simp [zeros]
    · simp [HoldsP]
end Go.Proofs.YtbdccfgeildebaaDoor.Abs
