/-
  The plain law of the three registers: a machine of small steps on lists of numbers, and an invariant that says that what is read was written wholly and is not too old. No program in sight; no conditions.
-/
namespace Go.Proofs.YtbdccfgeildebaaDoor.Abs

/-- The payload of writing number k. -/
def payload (k n : Nat) : List Nat := (List.range n).map fun i => k * 1000 + i

theorem payload_length (k n : Nat) : (payload k n).length = n := by simp [payload]
theorem payload_at (k n i : Nat) (h : i < n) : (payload k n)[i]? = some (k * 1000 + i) := by simp [payload, h]

inductive Prot where
  | four (rows : Bool → Bool → List Nat) (latest reading : Bool) (slot : Bool → Bool) (wp wq rp rq : Bool)
  | three (rows : Nat → List Nat) (front back mid : Nat) (fresh : Bool)
  | one (word : Nat)

structure St where
  n : Nat
  pay : List Nat
  out : List Nat
  ws : Nat
  rs : Nat
  wr : Bool
  rd : Bool
  p : Prot

def upd {α : Type} (f : Bool → α) (b : Bool) (x : α) : Bool → α := fun c => if c = b then x else f c
def upd2 (f : Bool → Bool → List Nat) (p q : Bool) (x : List Nat) : Bool → Bool → List Nat := fun a b => if a = p ∧ b = q then x else f a b
def updN (f : Nat → List Nat) (i : Nat) (x : List Nat) : Nat → List Nat := fun j => if j = i then x else f j

/-- One small step of the writing: the protocol, and was it the last one? -/
def protW (n ws : Nat) (pay : List Nat) : Prot → Prot × Bool
  | .four rows latest reading slot wp wq rp rq =>
    if ws = 0 then (.four rows latest reading slot (!reading) wq rp rq, false)
    else if ws = 1 then (.four rows latest reading slot wp (!slot wp) rp rq, false)
    else if ws < n + 2 then (.four (upd2 rows wp wq ((rows wp wq).set (ws - 2) (pay.getD (ws - 2) 0))) latest reading slot wp wq rp rq, false)
    else if ws = n + 2 then (.four rows latest reading (upd slot wp wq) wp wq rp rq, false)
    else (.four rows wp reading slot wp wq rp rq, true)
  | .three rows front back mid fresh =>
    if ws < n then (.three (updN rows back ((rows back).set ws (pay.getD ws 0))) front back mid fresh, false)
    else (.three rows front mid back true, true)
  | .one _ => (.one (pay.getD 0 0), true)

/-- One small step of the reading: the protocol, the row read so far, and was it the last one? -/
def protR (n rs : Nat) (out : List Nat) : Prot → Prot × List Nat × Bool
  | .four rows latest reading slot wp wq rp rq =>
    if rs = 0 then (.four rows latest reading slot wp wq latest rq, out, false)
    else if rs = 1 then (.four rows latest rp slot wp wq rp rq, out, false)
    else if rs = 2 then (.four rows latest reading slot wp wq rp (slot rp), out, false)
    else (.four rows latest reading slot wp wq rp rq, out.set (rs - 3) ((rows rp rq).getD (rs - 3) 0), decide (rs - 3 + 1 = n))
  | .three rows front back mid fresh =>
    if rs = 0 then (if fresh then (.three rows mid back front false, out, false) else (.three rows front back mid fresh, out, false))
    else (.three rows front back mid fresh, out.set (rs - 1) ((rows front).getD (rs - 1) 0), decide (rs = n))
  | .one word => (.one word, out.set 0 word, true)

def St.stepW (σ : St) : St := { σ with p := (protW σ.n σ.ws σ.pay σ.p).1, ws := σ.ws + 1, wr := !(protW σ.n σ.ws σ.pay σ.p).2 }
def St.overW (σ : St) : Bool := (protW σ.n σ.ws σ.pay σ.p).2
def St.stepR (σ : St) : St := { σ with p := (protR σ.n σ.rs σ.out σ.p).1, out := (protR σ.n σ.rs σ.out σ.p).2.1, rs := σ.rs + 1, rd := !(protR σ.n σ.rs σ.out σ.p).2.2 }
def St.overR (σ : St) : Bool := (protR σ.n σ.rs σ.out σ.p).2.2
def St.write (σ : St) (l : List Nat) : St := { σ with pay := l, ws := 0, wr := true }
def St.read (σ : St) : St := { σ with out := List.replicate σ.n 0, rs := 0, rd := true }

/-- The hands, as far as they count: how many writings have begun, have ended; of the reading how many had ended when it began; the last payload that was read. -/
structure Hs where
  begun : Nat
  ended : Nat
  floor : Nat
  last : Nat

/-- What is common to the three kinds. -/
structure Common (σ : St) (h : Hs) : Prop where
  pos : 0 < σ.n
  wr1 : σ.wr = true → h.begun = h.ended + 1 ∧ σ.pay = payload h.begun σ.n
  wr0 : σ.wr = false → h.begun = h.ended
  fl : h.floor ≤ h.ended
  outl : σ.rd = true → σ.out.length = σ.n

/-- Kind 1: what holds of the two pairs of slots. c: which writing a pair's slot holds, where v says that it holds one; rk: which one is being read. -/
structure Four (σ : St) (h : Hs) (rows : Bool → Bool → List Nat) (latest reading : Bool) (slot : Bool → Bool) (wp wq rp rq : Bool) (c : Bool → Nat) (v : Bool → Bool) (rk : Nat) : Prop where
  len : ∀ p q, (rows p q).length = σ.n
  cur : ∀ p, v p = true → rows p (slot p) = payload (c p) σ.n
  vl : v latest = true
  cle : ∀ p, v p = true → c p ≤ h.begun
  ge : h.ended ≤ c latest
  lastle : h.last ≤ c latest
  ord : ∀ p, v p = true → c p ≤ c latest ∨ (σ.wr = true ∧ σ.ws = σ.n + 3 ∧ p = wp)
  wle : σ.wr = true → σ.ws ≤ σ.n + 3
  wmid : σ.wr = true → 2 ≤ σ.ws → σ.ws ≤ σ.n + 2 → wq = !slot wp ∧ ∀ i, i < σ.ws - 2 → (rows wp wq)[i]? = σ.pay[i]?
  wend : σ.wr = true → σ.ws = σ.n + 3 → slot wp = wq ∧ v wp = true ∧ c wp = h.begun
  rle : σ.rd = true → σ.rs ≤ σ.n + 2
  r1 : σ.rd = true → 1 ≤ σ.rs → v rp = true
  r12 : σ.rd = true → 1 ≤ σ.rs → σ.rs ≤ 2 → h.floor ≤ c rp ∧ h.last ≤ c rp
  r2 : σ.rd = true → 2 ≤ σ.rs → reading = rp
  r3 : σ.rd = true → 3 ≤ σ.rs → h.floor ≤ rk ∧ h.last ≤ rk ∧ rk ≤ c latest ∧ rows rp rq = payload rk σ.n ∧ ∀ i, i < σ.rs - 3 → σ.out[i]? = (payload rk σ.n)[i]?
  safe : σ.rd = true → 3 ≤ σ.rs → σ.wr = true → rp = wp → 1 ≤ σ.ws → σ.ws ≤ σ.n + 2 → rq = slot rp
  j1 : ¬ (σ.rd = true ∧ σ.rs = 1) → σ.wr = true → 1 ≤ σ.ws → reading = wp → latest = wp
  j2 : σ.rd = true → σ.rs = 1 → σ.wr = true → 1 ≤ σ.ws → rp = wp → latest = wp
  j3 : σ.rd = true → σ.rs = 1 → ¬ (σ.wr = true ∧ 1 ≤ σ.ws) → reading ≠ rp → latest = rp
  j4 : σ.rd = true → σ.rs = 1 → σ.wr = true → 1 ≤ σ.ws → reading = wp → rp = wp

/-- Kind 2: what holds of the three buffers. nf: which writing the reader's holds. -/
structure Three (σ : St) (h : Hs) (rows : Nat → List Nat) (front back mid : Nat) (fresh : Bool) (nf : Nat) : Prop where
  len : ∀ i, i < 3 → (rows i).length = σ.n
  f3 : front < 3
  b3 : back < 3
  m3 : mid < 3
  fb : front ≠ back
  fm : front ≠ mid
  bm : back ≠ mid
  rf : rows front = payload nf σ.n
  rm : fresh = true → rows mid = payload h.ended σ.n
  nf0 : fresh = false → nf = h.ended
  nfle : nf ≤ h.ended
  lastle : h.last ≤ nf
  wle : σ.wr = true → σ.ws ≤ σ.n ∧ ∀ i, i < σ.ws → (rows back)[i]? = σ.pay[i]?
  rle : σ.rd = true → σ.rs ≤ σ.n
  r1 : σ.rd = true → 1 ≤ σ.rs → h.floor ≤ nf ∧ ∀ i, i < σ.rs - 1 → σ.out[i]? = (payload nf σ.n)[i]?

/-- Kind 3. -/
structure One (σ : St) (h : Hs) (word : Nat) : Prop where
  one : σ.n = 1
  wd : word = h.ended * 1000
  lastle : h.last ≤ h.ended

inductive Inv (σ : St) (h : Hs) : Prop where
  | four (rows : Bool → Bool → List Nat) (latest reading : Bool) (slot : Bool → Bool) (wp wq rp rq : Bool) (c : Bool → Nat) (v : Bool → Bool) (rk : Nat) (hp : σ.p = .four rows latest reading slot wp wq rp rq)
      (hc : Common σ h) (hi : Four σ h rows latest reading slot wp wq rp rq c v rk) : Inv σ h
  | three (rows : Nat → List Nat) (front back mid : Nat) (fresh : Bool) (nf : Nat) (hp : σ.p = .three rows front back mid fresh) (hc : Common σ h) (hi : Three σ h rows front back mid fresh nf) : Inv σ h
  | one (word : Nat) (hp : σ.p = .one word) (hc : Common σ h) (hi : One σ h word) : Inv σ h

theorem Inv.common {σ : St} {h : Hs} (i : Inv σ h) : Common σ h := by cases i <;> assumption

/-- A writing begins. -/
theorem Inv.write {σ : St} {h : Hs} (i : Inv σ h) (hw : σ.wr = false) : Inv (σ.write (payload (h.begun + 1) σ.n)) { h with begun := h.begun + 1 } := by
  have hb := i.common.wr0 hw
  have hcc : Common (σ.write (payload (h.begun + 1) σ.n)) { h with begun := h.begun + 1 } :=
    ⟨i.common.pos, fun _ => ⟨by simp [hb], rfl⟩, fun e => (by simp [St.write] at e), i.common.fl, i.common.outl⟩
  cases i with
  | four rows latest reading slot wp wq rp rq c v rk hp hc hi =>
    refine .four rows latest reading slot wp wq rp rq c v rk hp hcc ⟨hi.len, hi.cur, hi.vl, fun p hv => Nat.le_succ_of_le (hi.cle p hv), hi.ge, hi.lastle, fun p hv => ?_, fun _ => by simp [St.write], fun _ h2 => ?_, fun _ h2 => ?_, hi.rle, hi.r1, hi.r12, hi.r2, hi.r3, fun _ _ _ _ h1 => ?_, fun _ _ h1 => ?_, fun _ _ _ h1 => ?_, fun a b _ d => ?_, fun _ _ _ h1 => ?_⟩
    · rcases hi.ord p hv with o | ⟨o, _⟩
      · exact .inl o
      · rw [hw] at o; cases o
    all_goals (try (simp [St.write] at *; done))
    exact hi.j3 a b (by simp [hw]) d
  | three rows front back mid fresh nf hp hc hi =>
    exact .three rows front back mid fresh nf hp hcc ⟨hi.len, hi.f3, hi.b3, hi.m3, hi.fb, hi.fm, hi.bm, hi.rf, hi.rm, hi.nf0, hi.nfle, hi.lastle, fun _ => ⟨by simp [St.write], fun i hi' => by simp [St.write] at hi'⟩, hi.rle, hi.r1⟩
  | one word hp hc hi => exact .one word hp hcc ⟨hi.one, hi.wd, hi.lastle⟩

/-- A reading begins. -/
theorem Inv.read {σ : St} {h : Hs} (i : Inv σ h) (hr : σ.rd = false) : Inv σ.read { h with floor := h.ended } := by
  have hcc : Common σ.read { h with floor := h.ended } := ⟨i.common.pos, i.common.wr1, i.common.wr0, Nat.le_refl _, fun _ => by simp [St.read]⟩
  cases i with
  | four rows latest reading slot wp wq rp rq c v rk hp hc hi =>
    refine .four rows latest reading slot wp wq rp rq c v rk hp hcc ⟨hi.len, hi.cur, hi.vl, hi.cle, hi.ge, hi.lastle, hi.ord, hi.wle, hi.wmid, hi.wend, fun _ => by simp [St.read], fun _ h1 => ?_, fun _ h1 => ?_, fun _ h1 => ?_, fun _ h1 => ?_, fun _ h1 => ?_, fun _ a b d => hi.j1 (by simp [hr]) a b d, fun _ h1 => ?_, fun _ h1 => ?_, fun _ h1 => ?_⟩
    all_goals (simp [St.read] at h1)
  | three rows front back mid fresh nf hp hc hi =>
    exact .three rows front back mid fresh nf hp hcc ⟨hi.len, hi.f3, hi.b3, hi.m3, hi.fb, hi.fm, hi.bm, hi.rf, hi.rm, hi.nf0, hi.nfle, hi.lastle, hi.wle, fun _ => by simp [St.read], fun _ h1 => by simp [St.read] at h1⟩
  | one word hp hc hi => exact .one word hp hcc ⟨hi.one, hi.wd, hi.lastle⟩

theorem getD_of_at {l : List Nat} {i : Nat} {x : Nat} (h : l[i]? = some x) : l.getD i 0 = x := by simp [List.getD, h]

theorem set_at {a l : List Nat} {k n : Nat} (hl : a.length = n) (hk : k < n) (hp : l.length = n) (h : ∀ i, i < k → a[i]? = l[i]?) : ∀ i, i < k + 1 → (a.set k (l.getD k 0))[i]? = l[i]? := by
  intro i hi
  by_cases e : i = k
  · subst e
    rw [List.getElem?_set_self (by omega), List.getD, List.getElem?_eq_getElem (by omega)]
    rfl
  · rw [List.getElem?_set_ne (by omega)]
    exact h i (by omega)

theorem eq_of_at {a l : List Nat} {n : Nat} (ha : a.length = n) (hl : l.length = n) (h : ∀ i, i < n → a[i]? = l[i]?) : a = l := by
  apply List.ext_getElem?
  intro i
  by_cases hi : i < n
  · exact h i hi
  · rw [List.getElem?_eq_none (by omega), List.getElem?_eq_none (by omega)]

theorem St.stepW_four {σ : St} {rows latest reading slot wp wq rp rq} (hp : σ.p = .four rows latest reading slot wp wq rp rq) : σ.stepW = { σ with p := (protW σ.n σ.ws σ.pay (.four rows latest reading slot wp wq rp rq)).1, ws := σ.ws + 1, wr := !(protW σ.n σ.ws σ.pay (.four rows latest reading slot wp wq rp rq)).2 } ∧ σ.overW = (protW σ.n σ.ws σ.pay (.four rows latest reading slot wp wq rp rq)).2 := by
  simp [St.stepW, St.overW, hp]

/-- A small step of the writing, kind 1. -/
theorem Four.stepW {σ : St} {h : Hs} {rows latest reading slot wp wq rp rq c v rk} (hp : σ.p = .four rows latest reading slot wp wq rp rq) (hc : Common σ h)
    (hi : Four σ h rows latest reading slot wp wq rp rq c v rk) (hw : σ.wr = true) : Inv σ.stepW { h with ended := if σ.overW then h.begun else h.ended } := by
  obtain ⟨hb, hpay⟩ := hc.wr1 hw
  have hpl : σ.pay.length = σ.n := by rw [hpay, payload_length]
  have hpos := hc.pos
  have hle := hi.wle hw
  by_cases h0 : σ.ws = 0
  · have e : protW σ.n σ.ws σ.pay (.four rows latest reading slot wp wq rp rq) = (.four rows latest reading slot (!reading) wq rp rq, false) := by simp [protW, h0]
    obtain ⟨e1, e2⟩ := St.stepW_four hp
    rw [e] at e1 e2
    rw [e1, e2]
    simp only [Bool.not_false, Bool.false_eq_true, if_false]
    refine .four rows latest reading slot (!reading) wq rp rq c v rk rfl ⟨hc.pos, fun _ => hc.wr1 hw, fun e => by simp at e, hc.fl, hc.outl⟩ ⟨hi.len, hi.cur, hi.vl, hi.cle, hi.ge, hi.lastle, fun p hv => ?_, fun _ => by simp [h0], fun _ h2 => by simp [h0] at h2, fun _ h2 => by simp [h0] at h2, hi.rle, hi.r1, hi.r12, hi.r2, hi.r3, fun hr h3 _ hrp _ _ => ?_, fun _ _ _ hrw => ?_, fun hr h1 _ _ hrw => ?_, fun _ _ hn => by simp at hn, fun _ _ _ _ hrw => ?_⟩
    · rcases hi.ord p hv with o | ⟨_, o, _⟩
      · exact .inl o
      · omega
    · have := hi.r2 hr (by simp at h3; omega)
      subst this
      simp at hrp
    · simp at hrw
    · have h3 := hi.j3 hr h1 (by simp [h0])
      subst hrw
      have := h3 (by simp)
      exact this
    · simp at hrw
  by_cases h1 : σ.ws = 1
  · have e : protW σ.n σ.ws σ.pay (.four rows latest reading slot wp wq rp rq) = (.four rows latest reading slot wp (!slot wp) rp rq, false) := by simp [protW, h1]
    obtain ⟨e1, e2⟩ := St.stepW_four hp
    rw [e] at e1 e2
    rw [e1, e2]
    simp only [Bool.not_false, Bool.false_eq_true, if_false]
    refine .four rows latest reading slot wp (!slot wp) rp rq c v rk rfl ⟨hc.pos, fun _ => hc.wr1 hw, fun e => by simp at e, hc.fl, hc.outl⟩ ⟨hi.len, hi.cur, hi.vl, hi.cle, hi.ge, hi.lastle, fun p hv => ?_, fun _ => by simp [h1], fun _ _ _ => ⟨rfl, fun i hi' => by simp [h1] at hi'⟩, fun _ h2 => by simp [h1] at h2; try omega, hi.rle, hi.r1, hi.r12, hi.r2, hi.r3, fun hr h3 _ hrp _ _ => hi.safe hr h3 hw hrp (by omega) (by omega), fun a _ _ d => hi.j1 a hw (by omega) d, fun a b _ _ d => hi.j2 a b hw (by omega) d, fun _ _ hn => by simp at hn, fun a b _ _ d => hi.j4 a b hw (by omega) d⟩
    rcases hi.ord p hv with o | ⟨_, o, _⟩
    · exact .inl o
    · omega
  by_cases h2 : σ.ws < σ.n + 2
  · obtain ⟨hq, hat⟩ := hi.wmid hw (by omega) (by omega)
    have e : protW σ.n σ.ws σ.pay (.four rows latest reading slot wp wq rp rq) = (.four (upd2 rows wp wq ((rows wp wq).set (σ.ws - 2) (σ.pay.getD (σ.ws - 2) 0))) latest reading slot wp wq rp rq, false) := by simp [protW, h0, h1, h2]
    obtain ⟨e1, e2⟩ := St.stepW_four hp
    rw [e] at e1 e2
    rw [e1, e2]
    simp only [Bool.not_false, Bool.false_eq_true, if_false]
    have hnot : ∀ p, ¬ (p = wp ∧ slot p = wq) := fun p ⟨a, b⟩ => by subst a; rw [hq] at b; simp at b
    refine .four (upd2 rows wp wq ((rows wp wq).set (σ.ws - 2) (σ.pay.getD (σ.ws - 2) 0))) latest reading slot wp wq rp rq c v rk rfl ⟨hc.pos, fun _ => hc.wr1 hw, fun e => by simp at e, hc.fl, hc.outl⟩ ⟨fun p q => ?_, fun p hv => ?_, hi.vl, hi.cle, hi.ge, hi.lastle, fun p hv => ?_, fun _ => by simp; omega, fun _ _ h4 => ⟨hq, fun i hi' => ?_⟩, fun _ h4 => by simp at h4; omega, hi.rle, hi.r1, hi.r12, hi.r2, fun hr h3 => ?_, fun hr h3 _ hrp _ _ => hi.safe hr h3 hw hrp (by omega) (by omega), fun a _ _ d => hi.j1 a hw (by omega) d, fun a b _ _ d => hi.j2 a b hw (by omega) d, fun _ _ hn => by simp at hn, fun a b _ _ d => hi.j4 a b hw (by omega) d⟩
    · unfold upd2
      split
      · simp [hi.len]
      · exact hi.len p q
    · unfold upd2
      rw [if_neg (hnot p)]
      exact hi.cur p hv
    · rcases hi.ord p hv with o | ⟨_, o, _⟩
      · exact .inl o
      · omega
    · simp only [upd2, and_self, if_true]
      have := set_at (k := σ.ws - 2) (hi.len wp wq) (by omega) hpl hat i (by simp at hi'; omega)
      exact this
    · obtain ⟨a1, a2, a3, a4, a5⟩ := hi.r3 hr h3
      refine ⟨a1, a2, a3, ?_, a5⟩
      unfold upd2
      rw [if_neg]
      · exact a4
      · rintro ⟨hrp, hrq⟩
        have := hi.safe hr h3 hw hrp (by omega) (by omega)
        rw [hrp] at this
        rw [hq, this] at hrq
        simp at hrq
  by_cases h3 : σ.ws = σ.n + 2
  · obtain ⟨hq, hat⟩ := hi.wmid hw (by omega) (by omega)
    have e : protW σ.n σ.ws σ.pay (.four rows latest reading slot wp wq rp rq) = (.four rows latest reading (upd slot wp wq) wp wq rp rq, false) := by
      simp [protW, h3]
    obtain ⟨e1, e2⟩ := St.stepW_four hp
    rw [e] at e1 e2
    rw [e1, e2]
    simp only [Bool.not_false, Bool.false_eq_true, if_false]
    have hrow : rows wp wq = payload h.begun σ.n := eq_of_at (hi.len wp wq) (payload_length _ _) (fun i hi' => by rw [hat i (by omega), hpay])
    refine .four rows latest reading (upd slot wp wq) wp wq rp rq (fun p => if p = wp then h.begun else c p) (fun p => if p = wp then true else v p) rk rfl ⟨hc.pos, fun _ => hc.wr1 hw, fun e => by simp at e, hc.fl, hc.outl⟩ ⟨hi.len, fun p hv => ?_, ?_, fun p hv => ?_, ?_, ?_, fun p hv => ?_, fun _ => by simp; omega, fun _ _ h4 => by simp at h4; omega, fun _ _ => by simp [upd], hi.rle, fun hr a => ?_, fun hr a b => ?_, hi.r2, fun hr h3 => ?_, fun hr a _ _ _ d => by simp at d; omega, fun a _ _ d => hi.j1 a hw (by omega) d, fun a b _ _ d => hi.j2 a b hw (by omega) d, fun _ _ hn => by simp at hn, fun a b _ _ d => hi.j4 a b hw (by omega) d⟩
    · by_cases hpw : p = wp
      · subst hpw; simp [upd, hrow]
      · simp only [upd, hpw, if_false] at hv ⊢
        exact hi.cur p hv
    · by_cases hpw : latest = wp
      · simp [hpw]
      · simp [hpw, hi.vl]
    · by_cases hpw : p = wp
      · simp [hpw]
      · simp only [hpw, if_false] at hv ⊢
        exact hi.cle p hv
    · by_cases hpw : latest = wp
      · simp [hpw, hb]
      · simp only [hpw, if_false]; simpa using hi.ge
    · by_cases hpw : latest = wp
      · simp only [hpw, if_true]
        have := hi.lastle
        have := hi.cle latest hi.vl
        omega
      · simp only [hpw, if_false]; exact hi.lastle
    · by_cases hpw : p = wp
      · exact .inr ⟨rfl, by simp [h3], hpw⟩
      · simp only [hpw, if_false] at hv ⊢
        rcases hi.ord p hv with o | ⟨_, o, _⟩
        · left
          have := hi.cle p hv
          by_cases hlw : latest = wp
          · simp only [hlw, if_true]; omega
          · simp only [hlw, if_false]; exact o
        · omega
    · by_cases hpw : rp = wp
      · simp [hpw]
      · simp only [hpw, if_false]; exact hi.r1 hr a
    · have := hi.r12 hr a b
      by_cases hpw : rp = wp
      · simp only [hpw, if_true]
        rw [hpw] at this
        have h5 := hi.cle wp (by rw [← hpw]; exact hi.r1 hr a)
        omega
      · simp only [hpw, if_false]; exact this
    · obtain ⟨a1, a2, a3, a4, a5⟩ := hi.r3 hr h3
      refine ⟨a1, a2, ?_, a4, a5⟩
      by_cases hlw : latest = wp
      · simp only [hlw, if_true]
        have := hi.cle latest hi.vl
        omega
      · simp only [hlw, if_false]; exact a3
  · have h4 : σ.ws = σ.n + 3 := by omega
    obtain ⟨hs, hv, hcw⟩ := hi.wend hw h4
    have e : protW σ.n σ.ws σ.pay (.four rows latest reading slot wp wq rp rq) = (.four rows wp reading slot wp wq rp rq, true) := by
      simp [protW, h4]
    obtain ⟨e1, e2⟩ := St.stepW_four hp
    rw [e] at e1 e2
    rw [e1, e2]
    simp only [Bool.not_true, if_true]
    refine .four rows wp reading slot wp wq rp rq c v rk rfl ⟨hc.pos, fun e => by simp at e, fun _ => by simp, by have := hc.fl; simp; omega, hc.outl⟩ ⟨hi.len, hi.cur, hv, hi.cle, by simp [hcw], ?_, fun p hv' => .inl (by rw [hcw]; exact hi.cle p hv'), fun a => by simp at a, fun a => by simp at a, fun a => by simp at a, hi.rle, hi.r1, hi.r12, hi.r2, fun hr h3 => ?_, fun _ _ a => by simp at a, fun _ a => by simp at a, fun _ _ a => by simp at a, fun hr a _ d => ?_, fun _ _ a => by simp at a⟩
    · have := hi.lastle
      have := hi.cle latest hi.vl
      rw [hcw]
      show h.last ≤ h.begun
      omega
    · obtain ⟨a1, a2, a3, a4, a5⟩ := hi.r3 hr h3
      refine ⟨a1, a2, ?_, a4, a5⟩
      have := hi.cle latest hi.vl
      rw [hcw]
      omega
    · by_cases hrw : reading = wp
      · have := hi.j4 hr a hw (by omega) hrw
        rw [this]
      · revert d hrw
        cases reading <;> cases wp <;> cases rp <;> simp

/-- A small step of the writing, kind 2. -/
theorem Three.stepW {σ : St} {h : Hs} {rows front back mid fresh nf} (hp : σ.p = .three rows front back mid fresh) (hc : Common σ h)
    (hi : Three σ h rows front back mid fresh nf) (hw : σ.wr = true) : Inv σ.stepW { h with ended := if σ.overW then h.begun else h.ended } := by
  obtain ⟨hb, hpay⟩ := hc.wr1 hw
  have hpl : σ.pay.length = σ.n := by rw [hpay, payload_length]
  have hpos := hc.pos
  obtain ⟨hle, hat⟩ := hi.wle hw
  have hfb := hi.fb
  have hbm := hi.bm
  by_cases h0 : σ.ws < σ.n
  · have e1 : σ.stepW = { σ with p := .three (updN rows back ((rows back).set σ.ws (σ.pay.getD σ.ws 0))) front back mid fresh, ws := σ.ws + 1, wr := true } := by simp [St.stepW, hp, protW, h0]
    have e2 : σ.overW = false := by simp [St.overW, hp, protW, h0]
    rw [e1, e2]
    refine .three (updN rows back ((rows back).set σ.ws (σ.pay.getD σ.ws 0))) front back mid fresh nf rfl ⟨hc.pos, fun _ => hc.wr1 hw, fun e => by simp at e, hc.fl, hc.outl⟩ ⟨fun i h3 => ?_, hi.f3, hi.b3, hi.m3, hi.fb, hi.fm, hi.bm, ?_, fun hf => ?_, hi.nf0, hi.nfle, hi.lastle, fun _ => ⟨by simp; omega, fun i hi' => ?_⟩, hi.rle, hi.r1⟩
    · unfold updN
      split
      · simp [hi.len back hi.b3]
      · exact hi.len i h3
    · simp only [updN, hi.fb, if_false]; exact hi.rf
    · simp only [updN, Ne.symm hi.bm, if_false]; exact hi.rm hf
    · simp only [updN, if_true]
      exact set_at (hi.len back hi.b3) h0 hpl hat i hi'
  · have e1 : σ.stepW = { σ with p := .three rows front mid back true, ws := σ.ws + 1, wr := false } := by simp [St.stepW, hp, protW, h0]
    have e2 : σ.overW = true := by simp [St.overW, hp, protW, h0]
    have hrow : rows back = payload h.begun σ.n := eq_of_at (hi.len back hi.b3) (payload_length _ _) (fun i hi' => by rw [hat i (by omega), hpay])
    rw [e1, e2]
    refine .three rows front mid back true nf rfl ⟨hc.pos, fun e => by simp at e, fun _ => by simp, by have := hc.fl; simp; omega, hc.outl⟩ ⟨hi.len, hi.f3, hi.m3, hi.b3, hi.fm, hi.fb, Ne.symm hi.bm, hi.rf, fun _ => hrow, fun e => by simp at e, by have := hi.nfle; simp; omega, hi.lastle, fun e => by simp at e, hi.rle, hi.r1⟩

/-- A small step of the writing, kind 3. -/
theorem One.stepW {σ : St} {h : Hs} {word : Nat} (hp : σ.p = .one word) (hc : Common σ h) (hi : One σ h word) (hw : σ.wr = true) : Inv σ.stepW { h with ended := if σ.overW then h.begun else h.ended } := by
  obtain ⟨hb, hpay⟩ := hc.wr1 hw
  have e1 : σ.stepW = { σ with p := .one (σ.pay.getD 0 0), ws := σ.ws + 1, wr := false } := by simp [St.stepW, hp, protW]
  have e2 : σ.overW = true := by simp [St.overW, hp, protW]
  rw [e1, e2]
  refine .one (σ.pay.getD 0 0) rfl ⟨hc.pos, fun e => by simp at e, fun _ => by simp, by have := hc.fl; simp; omega, hc.outl⟩ ⟨hi.one, ?_, by have := hi.lastle; simp; omega⟩
  rw [hpay, getD_of_at (payload_at _ _ 0 hc.pos)]
  simp

theorem Inv.stepW {σ : St} {h : Hs} (i : Inv σ h) (hw : σ.wr = true) : Inv σ.stepW { h with ended := if σ.overW then h.begun else h.ended } := by
  cases i with
  | four rows latest reading slot wp wq rp rq c v rk hp hc hi => exact Four.stepW hp hc hi hw
  | three rows front back mid fresh nf hp hc hi => exact Three.stepW hp hc hi hw
  | one word hp hc hi => exact One.stepW hp hc hi hw

/-- A small step of the reading, kind 1. -/
theorem Four.stepR {σ : St} {h : Hs} {rows latest reading slot wp wq rp rq c v rk} (hp : σ.p = .four rows latest reading slot wp wq rp rq) (hc : Common σ h)
    (hi : Four σ h rows latest reading slot wp wq rp rq c v rk) (hr : σ.rd = true) :
    (σ.overR = false ∧ Inv σ.stepR h) ∨ (σ.overR = true ∧ ∃ k, σ.stepR.out = payload k σ.n ∧ h.floor ≤ k ∧ h.last ≤ k ∧ k ≤ h.begun ∧ Inv σ.stepR { h with last := k }) := by
  have hpos := hc.pos
  have hle := hi.rle hr
  have hol := hc.outl hr
  by_cases h0 : σ.rs = 0
  · have e1 : σ.stepR = { σ with p := .four rows latest reading slot wp wq latest rq, rs := 1, rd := true } := by simp [St.stepR, hp, protR, h0]
    have e2 : σ.overR = false := by simp [St.overR, hp, protR, h0]
    refine .inl ⟨e2, ?_⟩
    rw [e1]
    refine .four rows latest reading slot wp wq latest rq c v rk rfl ⟨hc.pos, hc.wr1, hc.wr0, hc.fl, fun _ => hol⟩ ⟨hi.len, hi.cur, hi.vl, hi.cle, hi.ge, hi.lastle, hi.ord, hi.wle, hi.wmid, hi.wend, fun _ => by simp, fun _ _ => hi.vl, fun _ _ _ => ⟨by have := hc.fl; have := hi.ge; omega, hi.lastle⟩, fun _ a => by simp at a, fun _ a => by simp at a, fun _ a => by simp at a, fun a => by simp at a, fun _ _ _ _ d => d, fun _ _ _ d => rfl, fun _ _ a b d => hi.j1 (by simp [h0]) a b d⟩
  by_cases h1 : σ.rs = 1
  · have e1 : σ.stepR = { σ with p := .four rows latest rp slot wp wq rp rq, rs := 2, rd := true } := by simp [St.stepR, hp, protR, h1]
    have e2 : σ.overR = false := by simp [St.overR, hp, protR, h1]
    refine .inl ⟨e2, ?_⟩
    rw [e1]
    refine .four rows latest rp slot wp wq rp rq c v rk rfl ⟨hc.pos, hc.wr1, hc.wr0, hc.fl, fun _ => hol⟩ ⟨hi.len, hi.cur, hi.vl, hi.cle, hi.ge, hi.lastle, hi.ord, hi.wle, hi.wmid, hi.wend, fun _ => by simp, fun _ _ => hi.r1 hr (by omega), fun _ _ _ => hi.r12 hr (by omega) (by omega), fun _ _ => rfl, fun _ a => by simp at a, fun _ a => by simp at a, fun _ a b d => hi.j2 hr h1 a b d, fun _ a => by simp at a, fun _ a => by simp at a, fun _ a => by simp at a⟩
  by_cases h2 : σ.rs = 2
  · have e1 : σ.stepR = { σ with p := .four rows latest reading slot wp wq rp (slot rp), rs := 3, rd := true } := by simp [St.stepR, hp, protR, h2]
    have e2 : σ.overR = false := by simp [St.overR, hp, protR, h2]
    refine .inl ⟨e2, ?_⟩
    rw [e1]
    have hrd := hi.r2 hr (by omega)
    have hv := hi.r1 hr (by omega)
    obtain ⟨f1, f2⟩ := hi.r12 hr (by omega) (by omega)
    have hcl : c rp ≤ c latest := by
      rcases hi.ord rp hv with o | ⟨hw, hws, hrw⟩
      · exact o
      · have := hi.j1 (by omega) hw (by omega) (by rw [hrd]; exact hrw)
        rw [this, hrw]
        exact Nat.le_refl _
    refine .four rows latest reading slot wp wq rp (slot rp) c v (c rp) rfl ⟨hc.pos, hc.wr1, hc.wr0, hc.fl, fun _ => hol⟩ ⟨hi.len, hi.cur, hi.vl, hi.cle, hi.ge, hi.lastle, hi.ord, hi.wle, hi.wmid, hi.wend, fun _ => by simp; omega, fun _ _ => hv, fun _ _ a => by simp at a, fun _ _ => hrd, fun _ _ => ⟨f1, f2, hcl, hi.cur rp hv, fun i a => by simp at a⟩, fun _ _ _ _ _ _ => rfl, fun _ a b d => hi.j1 (by omega) a b d, fun _ a => by simp at a, fun _ a => by simp at a, fun _ a => by simp at a⟩
  · obtain ⟨f1, f2, f3, f4, f5⟩ := hi.r3 hr (by omega)
    have hset := set_at (k := σ.rs - 3) hol (by omega) (payload_length rk σ.n) f5
    rw [← f4] at hset
    have e1 : σ.stepR = { σ with p := .four rows latest reading slot wp wq rp rq, out := σ.out.set (σ.rs - 3) ((rows rp rq).getD (σ.rs - 3) 0), rs := σ.rs + 1, rd := !(decide (σ.rs - 3 + 1 = σ.n)) } := by
      simp [St.stepR, hp, protR, h0, h1, h2]
    have e2 : σ.overR = decide (σ.rs - 3 + 1 = σ.n) := by simp [St.overR, hp, protR, h0, h1, h2]
    by_cases hov : σ.rs - 3 + 1 = σ.n
    · refine .inr ⟨by simp [e2, hov], rk, ?_, f1, f2, ?_, ?_⟩
      · rw [e1]
        refine eq_of_at (n := σ.n) (by simp [hol]) (payload_length _ _) (fun i hin => ?_)
        rw [← f4]
        exact hset i (by omega)
      · have := hi.cle latest hi.vl
        omega
      · rw [e1]
        simp only [hov, decide_true, Bool.not_true]
        have hj := hi.j1 (by omega)
        refine .four rows latest reading slot wp wq rp rq c v rk rfl ⟨hc.pos, hc.wr1, hc.wr0, hc.fl, fun a => by simp at a⟩ ⟨hi.len, hi.cur, hi.vl, hi.cle, hi.ge, f3, hi.ord, hi.wle, hi.wmid, hi.wend, fun a => by simp at a, fun a => by simp at a, fun a => by simp at a, fun a => by simp at a, fun a => by simp at a, fun a => by simp at a, fun _ a b d => hj a b d, fun a => by simp at a, fun a => by simp at a, fun a => by simp at a⟩
    · refine .inl ⟨by simp [e2, hov], ?_⟩
      rw [e1]
      simp only [hov, decide_false, Bool.not_false]
      have hj := hi.j1 (by omega)
      refine .four rows latest reading slot wp wq rp rq c v rk rfl ⟨hc.pos, hc.wr1, hc.wr0, hc.fl, fun _ => by simp [hol]⟩ ⟨hi.len, hi.cur, hi.vl, hi.cle, hi.ge, hi.lastle, hi.ord, hi.wle, hi.wmid, hi.wend, fun _ => by simp; omega, fun _ _ => hi.r1 hr (by omega), fun _ _ a => by simp at a; omega, fun _ _ => hi.r2 hr (by omega), fun _ _ => ⟨f1, f2, f3, f4, fun i a => ?_⟩, fun _ _ a b d e => hi.safe hr (by omega) a b d e, fun _ a b d => hj a b d, fun _ a => by simp at a; omega, fun _ a => by simp at a; omega, fun _ a => by simp at a; omega⟩
      rw [← f4]
      exact hset i (by simp at a; omega)

/-- A small step of the reading, kind 2. -/
theorem Three.stepR {σ : St} {h : Hs} {rows front back mid fresh nf} (hp : σ.p = .three rows front back mid fresh) (hc : Common σ h)
    (hi : Three σ h rows front back mid fresh nf) (hr : σ.rd = true) :
    (σ.overR = false ∧ Inv σ.stepR h) ∨ (σ.overR = true ∧ ∃ k, σ.stepR.out = payload k σ.n ∧ h.floor ≤ k ∧ h.last ≤ k ∧ k ≤ h.begun ∧ Inv σ.stepR { h with last := k }) := by
  have hpos := hc.pos
  have hle := hi.rle hr
  have hol := hc.outl hr
  have hfl := hc.fl
  have hbe : h.ended ≤ h.begun := by
    cases hw : σ.wr with
    | true => have := (hc.wr1 hw).1; omega
    | false => rw [hc.wr0 hw]; exact Nat.le_refl _
  by_cases h0 : σ.rs = 0
  · cases hf : fresh with
    | true =>
      subst hf
      have e1 : σ.stepR = { σ with p := .three rows mid back front false, rs := 1, rd := true } := by simp [St.stepR, hp, protR, h0]
      have e2 : σ.overR = false := by simp [St.overR, hp, protR, h0]
      refine .inl ⟨e2, ?_⟩
      rw [e1]
      exact .three rows mid back front false h.ended rfl ⟨hc.pos, hc.wr1, hc.wr0, hc.fl, fun _ => hol⟩ ⟨hi.len, hi.m3, hi.b3, hi.f3, Ne.symm hi.bm, Ne.symm hi.fm, Ne.symm hi.fb, hi.rm rfl, fun a => by simp at a, fun _ => rfl, Nat.le_refl _, by have := hi.lastle; have := hi.nfle; omega, hi.wle, fun _ => by simp; omega, fun _ _ => ⟨hfl, fun i a => by simp at a⟩⟩
    | false =>
      subst hf
      have e1 : σ.stepR = { σ with p := .three rows front back mid false, rs := 1, rd := true } := by simp [St.stepR, hp, protR, h0]
      have e2 : σ.overR = false := by simp [St.overR, hp, protR, h0]
      refine .inl ⟨e2, ?_⟩
      rw [e1]
      exact .three rows front back mid false nf rfl ⟨hc.pos, hc.wr1, hc.wr0, hc.fl, fun _ => hol⟩ ⟨hi.len, hi.f3, hi.b3, hi.m3, hi.fb, hi.fm, hi.bm, hi.rf, hi.rm, hi.nf0, hi.nfle, hi.lastle, hi.wle, fun _ => by simp; omega, fun _ _ => ⟨by rw [hi.nf0 rfl]; exact hfl, fun i a => by simp at a⟩⟩
  · obtain ⟨f1, f5⟩ := hi.r1 hr (by omega)
    have hset := set_at (k := σ.rs - 1) hol (by omega) (payload_length nf σ.n) f5
    rw [← hi.rf] at hset
    have e1 : σ.stepR = { σ with p := .three rows front back mid fresh, out := σ.out.set (σ.rs - 1) ((rows front).getD (σ.rs - 1) 0), rs := σ.rs + 1, rd := !(decide (σ.rs = σ.n)) } := by
      simp [St.stepR, hp, protR, h0]
    have e2 : σ.overR = decide (σ.rs = σ.n) := by simp [St.overR, hp, protR, h0]
    by_cases hov : σ.rs = σ.n
    · refine .inr ⟨by simp [e2, hov], nf, ?_, f1, hi.lastle, Nat.le_trans hi.nfle hbe, ?_⟩
      · rw [e1]
        refine eq_of_at (n := σ.n) (by simp [hol]) (payload_length _ _) (fun i hin => ?_)
        rw [← hi.rf]
        exact hset i (by omega)
      · rw [e1]
        simp only [hov, decide_true, Bool.not_true]
        exact .three rows front back mid fresh nf rfl ⟨hc.pos, hc.wr1, hc.wr0, hc.fl, fun a => by simp at a⟩ ⟨hi.len, hi.f3, hi.b3, hi.m3, hi.fb, hi.fm, hi.bm, hi.rf, hi.rm, hi.nf0, hi.nfle, Nat.le_refl _, hi.wle, fun a => by simp at a, fun a => by simp at a⟩
    · refine .inl ⟨by simp [e2, hov], ?_⟩
      rw [e1]
      simp only [hov, decide_false, Bool.not_false]
      refine .three rows front back mid fresh nf rfl ⟨hc.pos, hc.wr1, hc.wr0, hc.fl, fun _ => by simp [hol]⟩ ⟨hi.len, hi.f3, hi.b3, hi.m3, hi.fb, hi.fm, hi.bm, hi.rf, hi.rm, hi.nf0, hi.nfle, hi.lastle, hi.wle, fun _ => by simp; omega, fun _ _ => ⟨f1, fun i a => ?_⟩⟩
      rw [← hi.rf]
      exact hset i (by simp at a; omega)

/-- A small step of the reading, kind 3. -/
theorem One.stepR {σ : St} {h : Hs} {word : Nat} (hp : σ.p = .one word) (hc : Common σ h) (hi : One σ h word) (hr : σ.rd = true) :
    (σ.overR = false ∧ Inv σ.stepR h) ∨ (σ.overR = true ∧ ∃ k, σ.stepR.out = payload k σ.n ∧ h.floor ≤ k ∧ h.last ≤ k ∧ k ≤ h.begun ∧ Inv σ.stepR { h with last := k }) := by
  have hol := hc.outl hr
  have hbe : h.ended ≤ h.begun := by
    cases hw : σ.wr with
    | true => have := (hc.wr1 hw).1; omega
    | false => rw [hc.wr0 hw]; exact Nat.le_refl _
  have e1 : σ.stepR = { σ with p := .one word, out := σ.out.set 0 word, rs := σ.rs + 1, rd := false } := by simp [St.stepR, hp, protR]
  have e2 : σ.overR = true := by simp [St.overR, hp, protR]
  refine .inr ⟨e2, h.ended, ?_, hc.fl, hi.lastle, hbe, ?_⟩
  · rw [e1]
    have h1 := hi.one
    rw [h1] at hol
    match hl : σ.out, hol with
    | [x], _ => simp [payload, h1, hi.wd]
  · rw [e1]
    exact .one word rfl ⟨hc.pos, hc.wr1, hc.wr0, hc.fl, fun a => by simp at a⟩ ⟨hi.one, hi.wd, Nat.le_refl _⟩

theorem Inv.stepR {σ : St} {h : Hs} (i : Inv σ h) (hr : σ.rd = true) :
    (σ.overR = false ∧ Inv σ.stepR h) ∨ (σ.overR = true ∧ ∃ k, σ.stepR.out = payload k σ.n ∧ h.floor ≤ k ∧ h.last ≤ k ∧ k ≤ h.begun ∧ Inv σ.stepR { h with last := k }) := by
  cases i with
  | four rows latest reading slot wp wq rp rq c v rk hp hc hi => exact Four.stepR hp hc hi hr
  | three rows front back mid fresh nf hp hc hi => exact Three.stepR hp hc hi hr
  | one word hp hc hi => exact One.stepR hp hc hi hr

/-- A new register. -/
def zeros (n : Nat) : List Nat := List.replicate n 0
def newP (kind : Nat) (n : Nat) (first : List Nat) : Prot :=
  if kind = 1 then .four (fun p q => if p = false ∧ q = false then first else zeros n) false false (fun _ => false) false false false false
  else if kind = 2 then .three (fun i => if i = 0 then first else zeros n) 0 1 2 false
  else .one (first.getD 0 0)
def newSt (kind : Nat) (n : Nat) (first : List Nat) : St := ⟨n, [], [], 0, 0, false, false, newP kind n first⟩

theorem Inv.new (kind n : Nat) (hn : 0 < n) (h3 : kind ≠ 1 → kind ≠ 2 → n = 1) : Inv (newSt kind n (payload 0 n)) ⟨0, 0, 0, 0⟩ := by
  have hcc : Common (newSt kind n (payload 0 n)) ⟨0, 0, 0, 0⟩ := ⟨hn, fun e => by simp [newSt] at e, fun _ => rfl, Nat.le_refl _, fun e => by simp [newSt] at e⟩
  by_cases h1 : kind = 1
  · refine .four (fun p q => if p = false ∧ q = false then payload 0 n else zeros n) false false (fun _ => false) false false false false (fun _ => 0) (fun p => !p) 0 (by simp [newSt, newP, h1]) hcc ⟨fun p q => ?_, fun p hv => ?_, rfl, fun _ _ => Nat.le_refl _, Nat.le_refl _, Nat.le_refl _, fun _ _ => .inl (Nat.le_refl _), fun e => by simp [newSt] at e, fun e => by simp [newSt] at e, fun e => by simp [newSt] at e, fun e => by simp [newSt] at e, fun e => by simp [newSt] at e, fun e => by simp [newSt] at e, fun e => by simp [newSt] at e, fun e => by simp [newSt] at e, fun e => by simp [newSt] at e, fun _ e => by simp [newSt] at e, fun e => by simp [newSt] at e, fun e => by simp [newSt] at e, fun e => by simp [newSt] at e⟩
    · split <;> simp [newSt, zeros, payload]
    · have : p = false := by simpa using hv
      simp [this, newSt]
  by_cases h2 : kind = 2
  · refine .three (fun i => if i = 0 then payload 0 n else zeros n) 0 1 2 false 0 (by simp [newSt, newP, h2]) hcc ⟨fun i _ => ?_, by omega, by omega, by omega, by omega, by omega, by omega, by simp [newSt], fun e => by simp at e, fun _ => rfl, Nat.le_refl _, Nat.le_refl _, fun e => by simp [newSt] at e, fun e => by simp [newSt] at e, fun e => by simp [newSt] at e⟩
    split <;> simp [newSt, zeros, payload]
  · have hn1 := h3 h1 h2
    subst hn1
    exact .one 0 (by simp [newSt, newP, h1, h2, payload]) hcc ⟨rfl, rfl, Nat.le_refl _⟩

end Go.Proofs.YtbdccfgeildebaaDoor.Abs
