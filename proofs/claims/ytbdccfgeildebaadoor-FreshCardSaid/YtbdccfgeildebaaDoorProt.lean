/-
  A small step of a writing or a reading, of whatever kind, is the plain machine's step. Conditions: the register's blocks are there, and are different ones.
-/
import Derived.Test.YtbdccfgeildebaaDoorFourR
import Derived.Test.YtbdccfgeildebaaDoorThreeW
import Derived.Test.YtbdccfgeildebaaDoorPlain
namespace Go.Proofs.YtbdccfgeildebaaDoor
open Go.RowKit Mem Abs

/-- A row of words. -/
def u64s (l : List Nat) : Array Value := (l.map fun (x : Nat) => Value.int .u64 (x : Int)).toArray
theorem u64s_size (l : List Nat) : (u64s l).size = l.length := by simp [u64s]
theorem u64s_at (l : List Nat) (i : Nat) : (u64s l)[i]? = (l[i]?).map fun (x : Nat) => Value.int .u64 (x : Int) := by simp [u64s]
theorem u64s_set (l : List Nat) (i v : Nat) : (u64s l).setIfInBounds i (.int .u64 (v : Int)) = u64s (l.set i v) := by
  apply Array.ext'
  simp [u64s, List.map_set]

/-- Where a register's parts lie. -/
structure Lay where
  bp : Nat
  row : Nat → Nat
  pv : Value
  pb : Nat
  ov : Value
  ob : Nat

abbrev slc (g n : Nat) : Value := .slice (some ⟨g, 0, none⟩) n n

def nrow : Prot → Nat
  | .four .. => 4
  | .three .. => 3
  | .one .. => 0
def protTy : Prot → Nat
  | .four .. => 75
  | .three .. => 82
  | .one .. => 89
def ptrTy : Prot → Nat
  | .four .. => 66
  | .three .. => 76
  | .one .. => 84
def fnW : Prot → Nat
  | .four .. => 46
  | .three .. => 52
  | .one .. => 58
def fnR : Prot → Nat
  | .four .. => 45
  | .three .. => 51
  | .one .. => 57
def wmax (n : Nat) : Prot → Nat
  | .four .. => n + 3
  | .three .. => n
  | .one .. => 0
def rmax (n : Nat) : Prot → Nat
  | .four .. => n + 2
  | .three .. => n
  | .one .. => 0

/-- The protocol's own blocks. -/
def ProtW (w : World) (L : Lay) (n : Nat) : Prot → Prop
  | .four rows latest reading slot wp wq rp rq =>
    Blk w L.bp 75 (fourCells (slc (L.row 0) n) (slc (L.row 1) n) (slc (L.row 2) n) (slc (L.row 3) n) latest reading (slot false) (slot true) wp wq rp rq) ∧
    ∀ p q, Blk w (L.row (ix p q)) 38 (u64s (rows p q)) ∧ (rows p q).length = n
  | .three rows front back mid fresh =>
    Blk w L.bp 82 (threeCells (slc (L.row 0) n) (slc (L.row 1) n) (slc (L.row 2) n) front back mid fresh) ∧
    (∀ i, i < 3 → Blk w (L.row i) 38 (u64s (rows i)) ∧ (rows i).length = n) ∧ front < 3 ∧ back < 3 ∧ mid < 3
  | .one word => Blk w L.bp 89 #[.int .u64 (word : Int)] ∧ n = 1

/-- The rows are different blocks. -/
def Sep (L : Lay) (p : Prot) : Prop := ∀ i j, i < nrow p → j < nrow p → i ≠ j → L.row i ≠ L.row j

/-- What a step of the protocol may turn. -/
def Own (L : Lay) (p : Prot) (k : Nat) : Prop := k = L.bp ∨ ∃ i, i < nrow p ∧ k = L.row i

theorem ix_lt (p q : Bool) : ix p q < 4 := by cases p <;> cases q <;> decide
theorem ix_inj {p q a b : Bool} (h : ix p q = ix a b) : p = a ∧ q = b := by
  revert h; cases p <;> cases q <;> cases a <;> cases b <;> decide

theorem ProtW.keep {w w' : World} {L : Lay} {n : Nat} {p : Prot} {S : Nat → Prop} (h : ProtW w L n p) (hc : Chg S w w') (hs : ∀ k, Own L p k → ¬ S k) : ProtW w' L n p := by
  cases p with
  | four rows latest reading slot wp wq rp rq =>
    exact ⟨hc.blk h.1 (hs _ (.inl rfl)), fun p q => ⟨hc.blk (h.2 p q).1 (hs _ (.inr ⟨ix p q, ix_lt p q, rfl⟩)), (h.2 p q).2⟩⟩
  | three rows front back mid fresh =>
    exact ⟨hc.blk h.1 (hs _ (.inl rfl)), fun i hi => ⟨hc.blk (h.2.1 i hi).1 (hs _ (.inr ⟨i, hi, rfl⟩)), (h.2.1 i hi).2⟩, h.2.2⟩
  | one word => exact ⟨hc.blk h.1 (hs _ (.inl rfl)), h.2⟩

theorem ProtW.own_lt {w : World} {L : Lay} {n : Nat} {p : Prot} (h : ProtW w L n p) {k : Nat} (hk : Own L p k) : k < w.heap.size := by
  cases p with
  | four rows latest reading slot wp wq rp rq =>
    rcases hk with rfl | ⟨i, hi, rfl⟩
    · exact h.1.lt
    · rcases (by simp [nrow] at hi; omega : i = 0 ∨ i = 1 ∨ i = 2 ∨ i = 3) with rfl | rfl | rfl | rfl
      · exact (h.2 false false).1.lt
      · exact (h.2 false true).1.lt
      · exact (h.2 true false).1.lt
      · exact (h.2 true true).1.lt
  | three rows front back mid fresh =>
    rcases hk with rfl | ⟨i, hi, rfl⟩
    · exact h.1.lt
    · exact (h.2.1 i hi).1.lt
  | one word =>
    rcases hk with rfl | ⟨i, hi, rfl⟩
    · exact h.1.lt
    · simp [nrow] at hi

/-- What a writing step needs of its payload. -/
structure PayW (w : World) (L : Lay) (n : Nat) (p : Prot) (pay : List Nat) : Prop where
  len : pay.length = n
  cell : ∀ (i x : Nat), pay[i]? = some x → w.cell? ⟨L.pb, i, none⟩ = some (.int .u64 (x : Int))
  far : ¬ Own L p L.pb

theorem fourW_calls {w : World} {L : Lay} {n ws cp : Nat} {pay : List Nat} {rows latest reading slot wp wq rp rq} (h : ProtW w L n (.four rows latest reading slot wp wq rp rq)) (hs : Sep L (.four rows latest reading slot wp wq rp rq))
    (hp : PayW w L n (.four rows latest reading slot wp wq rp rq) pay) (h0 : 0 < n) (hn : n ≤ 4096) (hw : ws ≤ n + 3) :
    Calls Tryd.prog 46 #[.pointer (some ⟨L.bp, 0, none⟩), .int .i64 (ws : Int), .slice (some ⟨L.pb, 0, none⟩) n cp] w fun e w' =>
      e = .returned (.bool (protW n ws pay (.four rows latest reading slot wp wq rp rq)).2) ∧ ProtW w' L n (protW n ws pay (.four rows latest reading slot wp wq rp rq)).1 ∧ Chg (Own L (.four rows latest reading slot wp wq rp rq)) w w' := by
  obtain ⟨hb, hr⟩ := h
  have hbne : ∀ p q, L.row (ix p q) ≠ L.bp := fun p q => Blk.ne_ (hr p q).1 hb (by decide)
  have keepr : ∀ {w' : World}, Chg (· = L.bp) w w' → ∀ p q, Blk w' (L.row (ix p q)) 38 (u64s (rows p q)) ∧ (rows p q).length = n := fun hc p q => ⟨hc.blk (hr p q).1 (hbne p q), (hr p q).2⟩
  have own : ∀ {w' : World}, Chg (· = L.bp) w w' → Chg (Own L (.four rows latest reading slot wp wq rp rq)) w w' := fun hc => hc.mono fun k _ hk => .inl hk
  by_cases w0 : ws = 0
  · subst w0
    refine (fourW0 L.bp _ n cp _ _ _ _ latest reading (slot false) (slot true) wp wq rp rq w hb).mono ?_
    rintro e w' ⟨he, hb', hc⟩
    exact ⟨he, ⟨hb', keepr hc⟩, own hc⟩
  by_cases w1 : ws = 1
  · subst w1
    have e : protW n 1 pay (.four rows latest reading slot wp wq rp rq) = (.four rows latest reading slot wp (!slot wp) rp rq, false) := by simp [protW]
    rw [e]
    cases wp
    · refine (fourW1_0 L.bp _ n cp _ _ _ _ latest reading (slot false) (slot true) wq rp rq w hb).mono ?_
      rintro e w' ⟨he, hb', hc⟩
      exact ⟨he, ⟨hb', keepr hc⟩, own hc⟩
    · refine (fourW1_1 L.bp _ n cp _ _ _ _ latest reading (slot false) (slot true) wq rp rq w hb).mono ?_
      rintro e w' ⟨he, hb', hc⟩
      exact ⟨he, ⟨hb', keepr hc⟩, own hc⟩
  by_cases w2 : ws < n + 2
  · have e : protW n ws pay (.four rows latest reading slot wp wq rp rq) = (.four (upd2 rows wp wq ((rows wp wq).set (ws - 2) (pay.getD (ws - 2) 0))) latest reading slot wp wq rp rq, false) := by simp [protW, w0, w1, w2]
    rw [e]
    have hx : pay[ws - 2]? = some (pay.getD (ws - 2) 0) := by
      rw [List.getD, List.getElem?_eq_getElem (by have := hp.len; omega)]
      rfl
    have hcell := hp.cell _ _ hx
    have hpb : L.row (ix wp wq) ≠ L.pb := fun e => hp.far (.inr ⟨ix wp wq, ix_lt wp wq, e.symm⟩)
    have hsz : (u64s (rows wp wq)).size = n := (u64s_size _).trans (hr wp wq).2
    have fin : ∀ {w' : World}, Blk w' (L.row (ix wp wq)) 38 ((u64s (rows wp wq)).setIfInBounds (ws - 2) (.int .u64 ((pay.getD (ws - 2) 0 : Nat) : Int))) → Chg (· = L.row (ix wp wq)) w w' →
        ProtW w' L n (.four (upd2 rows wp wq ((rows wp wq).set (ws - 2) (pay.getD (ws - 2) 0))) latest reading slot wp wq rp rq) ∧ Chg (Own L (.four rows latest reading slot wp wq rp rq)) w w' := fun {w'} hb' hc => by
      refine ⟨⟨hc.blk hb (fun e => hbne wp wq e.symm), fun p q => ?_⟩, hc.mono fun k _ hk => .inr ⟨ix wp wq, ix_lt wp wq, hk⟩⟩
      by_cases hpq : p = wp ∧ q = wq
      · obtain ⟨rfl, rfl⟩ := hpq
        rw [u64s_set] at hb'
        simp only [upd2, and_self, if_true]
        exact ⟨hb', by rw [List.length_set]; exact (hr p q).2⟩
      · simp only [upd2, if_neg hpq]
        exact ⟨hc.blk (hr p q).1 (hs _ _ (ix_lt p q) (ix_lt wp wq) fun e => hpq (ix_inj e)), (hr p q).2⟩
    cases wp <;> cases wq
    · refine (fourW2_00 L.bp (L.row 0) L.pb n cp ws _ _ _ latest reading (slot false) (slot true) rp rq _ _ w hb (hr false false).1 hsz hcell (by omega) w2 hn (hbne false false) hpb).mono ?_
      rintro e w' ⟨he, hb', hc⟩
      exact ⟨he, fin hb' hc⟩
    · refine (fourW2_01 L.bp (L.row 1) L.pb n cp ws _ _ _ latest reading (slot false) (slot true) rp rq _ _ w hb (hr false true).1 hsz hcell (by omega) w2 hn (hbne false true) hpb).mono ?_
      rintro e w' ⟨he, hb', hc⟩
      exact ⟨he, fin hb' hc⟩
    · refine (fourW2_10 L.bp (L.row 2) L.pb n cp ws _ _ _ latest reading (slot false) (slot true) rp rq _ _ w hb (hr true false).1 hsz hcell (by omega) w2 hn (hbne true false) hpb).mono ?_
      rintro e w' ⟨he, hb', hc⟩
      exact ⟨he, fin hb' hc⟩
    · refine (fourW2_11 L.bp (L.row 3) L.pb n cp ws _ _ _ latest reading (slot false) (slot true) rp rq _ _ w hb (hr true true).1 hsz hcell (by omega) w2 hn (hbne true true) hpb).mono ?_
      rintro e w' ⟨he, hb', hc⟩
      exact ⟨he, fin hb' hc⟩
  by_cases w3 : ws = n + 2
  · subst w3
    have e : protW n (n + 2) pay (.four rows latest reading slot wp wq rp rq) = (.four rows latest reading (upd slot wp wq) wp wq rp rq, false) := by simp [protW]
    have ew : ((n + 2 : Nat) : Int) = (n : Int) + 2 := by omega
    rw [e, ew]
    cases wp
    · refine (fourW3_0 L.bp n cp _ _ _ _ _ latest reading (slot false) (slot true) wq rp rq w hb hn h0).mono ?_
      rintro e w' ⟨he, hb', hc⟩
      exact ⟨he, ⟨by simpa [upd] using hb', keepr hc⟩, own hc⟩
    · refine (fourW3_1 L.bp n cp _ _ _ _ _ latest reading (slot false) (slot true) wq rp rq w hb hn h0).mono ?_
      rintro e w' ⟨he, hb', hc⟩
      exact ⟨he, ⟨by simpa [upd] using hb', keepr hc⟩, own hc⟩
  · obtain rfl : ws = n + 3 := by omega
    have e : protW n (n + 3) pay (.four rows latest reading slot wp wq rp rq) = (.four rows wp reading slot wp wq rp rq, true) := by simp [protW]
    have ew : ((n + 3 : Nat) : Int) = (n : Int) + 3 := by omega
    rw [e, ew]
    refine (fourW4 L.bp n cp _ _ _ _ _ latest reading (slot false) (slot true) wp wq rp rq w hb hn h0).mono ?_
    rintro e w' ⟨he, hb', hc⟩
    exact ⟨he, ⟨hb', keepr hc⟩, own hc⟩

theorem threeW_calls {w : World} {L : Lay} {n ws cp : Nat} {pay : List Nat} {rows front back mid fresh} (h : ProtW w L n (.three rows front back mid fresh)) (hs : Sep L (.three rows front back mid fresh))
    (hp : PayW w L n (.three rows front back mid fresh) pay) (hn : n ≤ 4096) (hw : ws ≤ n) :
    Calls Tryd.prog 52 #[.pointer (some ⟨L.bp, 0, none⟩), .int .i64 (ws : Int), .slice (some ⟨L.pb, 0, none⟩) n cp] w fun e w' =>
      e = .returned (.bool (protW n ws pay (.three rows front back mid fresh)).2) ∧ ProtW w' L n (protW n ws pay (.three rows front back mid fresh)).1 ∧ Chg (Own L (.three rows front back mid fresh)) w w' := by
  obtain ⟨hb, hr, hf3, hb3, hm3⟩ := h
  have hbne : ∀ i, i < 3 → L.row i ≠ L.bp := fun i hi => Blk.ne_ (hr i hi).1 hb (by decide)
  by_cases w2 : ws < n
  · have e : protW n ws pay (.three rows front back mid fresh) = (.three (updN rows back ((rows back).set ws (pay.getD ws 0))) front back mid fresh, false) := by simp [protW, w2]
    rw [e]
    have hx : pay[ws]? = some (pay.getD ws 0) := by
      rw [List.getD, List.getElem?_eq_getElem (by have := hp.len; omega)]
      rfl
    have hcell := hp.cell _ _ hx
    have hpb : L.row back ≠ L.pb := fun e => hp.far (.inr ⟨back, hb3, e.symm⟩)
    have hsz : (u64s (rows back)).size = n := (u64s_size _).trans (hr back hb3).2
    have fin : ∀ {w' : World}, Blk w' (L.row back) 38 ((u64s (rows back)).setIfInBounds ws (.int .u64 ((pay.getD ws 0 : Nat) : Int))) → Chg (· = L.row back) w w' →
        ProtW w' L n (.three (updN rows back ((rows back).set ws (pay.getD ws 0))) front back mid fresh) ∧ Chg (Own L (.three rows front back mid fresh)) w w' := fun {w'} hb' hc => by
      refine ⟨⟨hc.blk hb (fun e => hbne back hb3 e.symm), fun i hi => ?_, hf3, hb3, hm3⟩, hc.mono fun k _ hk => .inr ⟨back, hb3, hk⟩⟩
      by_cases hpq : i = back
      · subst hpq
        rw [u64s_set] at hb'
        simp only [updN, if_true]
        exact ⟨hb', by rw [List.length_set]; exact (hr i hi).2⟩
      · simp only [updN, if_neg hpq]
        exact ⟨hc.blk (hr i hi).1 (hs _ _ hi hb3 hpq), (hr i hi).2⟩
    rcases (by omega : back = 0 ∨ back = 1 ∨ back = 2) with rfl | rfl | rfl
    · refine (threeWs_0 L.bp (L.row 0) L.pb n cp ws _ _ front mid fresh _ _ w hb (hr 0 hb3).1 hsz hcell w2 (hbne 0 hb3) hpb).mono ?_
      rintro e w' ⟨he, hb', hc⟩
      exact ⟨he, fin hb' hc⟩
    · refine (threeWs_1 L.bp (L.row 1) L.pb n cp ws _ _ front mid fresh _ _ w hb (hr 1 hb3).1 hsz hcell w2 (hbne 1 hb3) hpb).mono ?_
      rintro e w' ⟨he, hb', hc⟩
      exact ⟨he, fin hb' hc⟩
    · refine (threeWs_2 L.bp (L.row 2) L.pb n cp ws _ _ front mid fresh _ _ w hb (hr 2 hb3).1 hsz hcell w2 (hbne 2 hb3) hpb).mono ?_
      rintro e w' ⟨he, hb', hc⟩
      exact ⟨he, fin hb' hc⟩
  · obtain rfl : ws = n := by omega
    have e : protW ws ws pay (.three rows front back mid fresh) = (.three rows front mid back true, true) := by simp [protW]
    rw [e]
    refine (threeWn L.bp _ ws cp _ _ _ front back mid fresh w hb hb3 hm3).mono ?_
    rintro e w' ⟨he, hb', hc⟩
    exact ⟨he, ⟨hb', fun i hi => ⟨hc.blk (hr i hi).1 (hbne i hi), (hr i hi).2⟩, hf3, hm3, hb3⟩, hc.mono fun k _ hk => .inl hk⟩

/-- A small step of the writing, of whatever kind. -/
theorem protW_calls {w : World} {L : Lay} {n ws cp : Nat} {pay : List Nat} {p : Prot} (h : ProtW w L n p) (hs : Sep L p) (hp : PayW w L n p pay) (h0 : 0 < n) (hn : n ≤ 4096) (hw : ws ≤ wmax n p) :
    Calls Tryd.prog (fnW p) #[.pointer (some ⟨L.bp, 0, none⟩), .int .i64 (ws : Int), .slice (some ⟨L.pb, 0, none⟩) n cp] w fun e w' =>
      e = .returned (.bool (protW n ws pay p).2) ∧ ProtW w' L n (protW n ws pay p).1 ∧ Chg (Own L p) w w' := by
  cases p with
  | four rows latest reading slot wp wq rp rq => exact fourW_calls h hs hp h0 hn hw
  | three rows front back mid fresh => exact threeW_calls h hs hp hn hw
  | one word =>
    obtain ⟨hb, h1⟩ := h
    have hx : pay[0]? = some (pay.getD 0 0) := by
      rw [List.getD, List.getElem?_eq_getElem (by have := hp.len; omega)]
      rfl
    refine (oneW L.bp L.pb n cp ws _ _ w hb (hp.cell _ _ hx) hn h0 (fun e => hp.far (.inl e))).mono ?_
    rintro e w' ⟨he, hb', hc⟩
    exact ⟨he, ⟨hb', h1⟩, hc.mono fun k _ hk => .inl hk⟩

theorem fourR_calls {w : World} {L : Lay} {n rs co : Nat} {out : List Nat} {rows latest reading slot wp wq rp rq} (h : ProtW w L n (.four rows latest reading slot wp wq rp rq))
    (ho : Blk w L.ob 38 (u64s out)) (hol : out.length = n) (hfar : ¬ Own L (.four rows latest reading slot wp wq rp rq) L.ob) (hn : n ≤ 4096) (hw : rs ≤ n + 2) :
    Calls Tryd.prog 45 #[.pointer (some ⟨L.bp, 0, none⟩), .int .i64 (rs : Int), .slice (some ⟨L.ob, 0, none⟩) n co] w fun e w' =>
      e = .returned (.bool (protR n rs out (.four rows latest reading slot wp wq rp rq)).2.2) ∧ ProtW w' L n (protR n rs out (.four rows latest reading slot wp wq rp rq)).1 ∧
      Blk w' L.ob 38 (u64s (protR n rs out (.four rows latest reading slot wp wq rp rq)).2.1) ∧ Chg (fun k => Own L (.four rows latest reading slot wp wq rp rq) k ∨ k = L.ob) w w' := by
  have h' := h
  obtain ⟨hb, hr⟩ := h
  have hbne : ∀ p q, L.row (ix p q) ≠ L.bp := fun p q => Blk.ne_ (hr p q).1 hb (by decide)
  have hobp : L.ob ≠ L.bp := fun e => hfar (.inl e)
  have keepr : ∀ {w' : World}, Chg (· = L.bp) w w' → ∀ p q, Blk w' (L.row (ix p q)) 38 (u64s (rows p q)) ∧ (rows p q).length = n := fun hc p q => ⟨hc.blk (hr p q).1 (hbne p q), (hr p q).2⟩
  have own : ∀ {w' : World}, Chg (· = L.bp) w w' → Chg (fun k => Own L (.four rows latest reading slot wp wq rp rq) k ∨ k = L.ob) w w' := fun hc => hc.mono fun k _ hk => .inl (.inl hk)
  by_cases w0 : rs = 0
  · subst w0
    refine (fourR0 L.bp _ n co _ _ _ _ latest reading (slot false) (slot true) wp wq rp rq w hb).mono ?_
    rintro e w' ⟨he, hb', hc⟩
    exact ⟨he, ⟨hb', keepr hc⟩, hc.blk ho hobp, own hc⟩
  by_cases w1 : rs = 1
  · subst w1
    have e : protR n 1 out (.four rows latest reading slot wp wq rp rq) = (.four rows latest rp slot wp wq rp rq, out, false) := by simp [protR]
    rw [e]
    refine (fourR1 L.bp _ n co _ _ _ _ latest reading (slot false) (slot true) wp wq rp rq w hb).mono ?_
    rintro e w' ⟨he, hb', hc⟩
    exact ⟨he, ⟨hb', keepr hc⟩, hc.blk ho hobp, own hc⟩
  by_cases w2 : rs = 2
  · subst w2
    have e : protR n 2 out (.four rows latest reading slot wp wq rp rq) = (.four rows latest reading slot wp wq rp (slot rp), out, false) := by simp [protR]
    rw [e]
    cases rp
    · refine (fourR2_0 L.bp _ n co _ _ _ _ latest reading (slot false) (slot true) wp wq rq w hb).mono ?_
      rintro e w' ⟨he, hb', hc⟩
      exact ⟨he, ⟨hb', keepr hc⟩, hc.blk ho hobp, own hc⟩
    · refine (fourR2_1 L.bp _ n co _ _ _ _ latest reading (slot false) (slot true) wp wq rq w hb).mono ?_
      rintro e w' ⟨he, hb', hc⟩
      exact ⟨he, ⟨hb', keepr hc⟩, hc.blk ho hobp, own hc⟩
  · have e : protR n rs out (.four rows latest reading slot wp wq rp rq) = (.four rows latest reading slot wp wq rp rq, out.set (rs - 3) ((rows rp rq).getD (rs - 3) 0), decide (rs - 3 + 1 = n)) := by simp [protR, w0, w1, w2]
    rw [e]
    have eb : ((rs : Int) - 3 == (n : Int) - 1) = decide (rs - 3 + 1 = n) := by
      rw [Bool.eq_iff_iff]
      simp
      omega
    have hx : (rows rp rq)[rs - 3]? = some ((rows rp rq).getD (rs - 3) 0) := by
      rw [List.getD, List.getElem?_eq_getElem (by have := (hr rp rq).2; omega)]
      rfl
    have hcell : w.cell? ⟨L.row (ix rp rq), rs - 3, none⟩ = some (.int .u64 (((rows rp rq).getD (rs - 3) 0 : Nat) : Int)) := by
      rw [(hr rp rq).1.cell, u64s_at, hx]
      rfl
    have hog : L.ob ≠ L.row (ix rp rq) := fun e => hfar (.inr ⟨ix rp rq, ix_lt rp rq, e⟩)
    have hsz : (u64s out).size = n := (u64s_size _).trans hol
    have fin : ∀ {w' : World}, Blk w' L.ob 38 ((u64s out).setIfInBounds (rs - 3) (.int .u64 (((rows rp rq).getD (rs - 3) 0 : Nat) : Int))) → Chg (· = L.ob) w w' →
        ProtW w' L n (.four rows latest reading slot wp wq rp rq) ∧ Blk w' L.ob 38 (u64s (out.set (rs - 3) ((rows rp rq).getD (rs - 3) 0))) ∧ Chg (fun k => Own L (.four rows latest reading slot wp wq rp rq) k ∨ k = L.ob) w w' := fun {w'} hb' hc =>
      ⟨h'.keep hc fun k hk e => hfar (by subst e; exact hk), by rw [← u64s_set]; exact hb', hc.mono fun k _ hk => .inr hk⟩
    cases rp <;> cases rq
    · refine (fourR3_00 L.bp (L.row 0) L.ob n co rs _ _ _ latest reading (slot false) (slot true) wp wq _ _ w hb ho hsz hcell (by omega) (by omega) hn hobp hog).mono ?_
      rintro e w' ⟨he, hb', hc⟩
      exact ⟨by rw [he, eb], fin hb' hc⟩
    · refine (fourR3_01 L.bp (L.row 1) L.ob n co rs _ _ _ latest reading (slot false) (slot true) wp wq _ _ w hb ho hsz hcell (by omega) (by omega) hn hobp hog).mono ?_
      rintro e w' ⟨he, hb', hc⟩
      exact ⟨by rw [he, eb], fin hb' hc⟩
    · refine (fourR3_10 L.bp (L.row 2) L.ob n co rs _ _ _ latest reading (slot false) (slot true) wp wq _ _ w hb ho hsz hcell (by omega) (by omega) hn hobp hog).mono ?_
      rintro e w' ⟨he, hb', hc⟩
      exact ⟨by rw [he, eb], fin hb' hc⟩
    · refine (fourR3_11 L.bp (L.row 3) L.ob n co rs _ _ _ latest reading (slot false) (slot true) wp wq _ _ w hb ho hsz hcell (by omega) (by omega) hn hobp hog).mono ?_
      rintro e w' ⟨he, hb', hc⟩
      exact ⟨by rw [he, eb], fin hb' hc⟩

theorem threeR_calls {w : World} {L : Lay} {n rs co : Nat} {out : List Nat} {rows front back mid fresh} (h : ProtW w L n (.three rows front back mid fresh))
    (ho : Blk w L.ob 38 (u64s out)) (hol : out.length = n) (hfar : ¬ Own L (.three rows front back mid fresh) L.ob) (hn : n ≤ 4096) (hw : rs ≤ n) :
    Calls Tryd.prog 51 #[.pointer (some ⟨L.bp, 0, none⟩), .int .i64 (rs : Int), .slice (some ⟨L.ob, 0, none⟩) n co] w fun e w' =>
      e = .returned (.bool (protR n rs out (.three rows front back mid fresh)).2.2) ∧ ProtW w' L n (protR n rs out (.three rows front back mid fresh)).1 ∧
      Blk w' L.ob 38 (u64s (protR n rs out (.three rows front back mid fresh)).2.1) ∧ Chg (fun k => Own L (.three rows front back mid fresh) k ∨ k = L.ob) w w' := by
  have h' := h
  obtain ⟨hb, hr, hf3, hb3, hm3⟩ := h
  have hbne : ∀ i, i < 3 → L.row i ≠ L.bp := fun i hi => Blk.ne_ (hr i hi).1 hb (by decide)
  have hobp : L.ob ≠ L.bp := fun e => hfar (.inl e)
  by_cases w0 : rs = 0
  · subst w0
    cases fresh
    · have e : protR n 0 out (.three rows front back mid false) = (.three rows front back mid false, out, false) := by simp [protR]
      rw [e]
      refine (threeR0_no L.bp _ n co _ _ _ front back mid w hb hm3).mono ?_
      rintro e w' ⟨he, rfl⟩
      exact ⟨he, h', ho, Chg.refl _⟩
    · have e : protR n 0 out (.three rows front back mid true) = (.three rows mid back front false, out, false) := by simp [protR]
      rw [e]
      refine (threeR0_yes L.bp _ n co _ _ _ front back mid w hb hm3).mono ?_
      rintro e w' ⟨he, hb', hc⟩
      exact ⟨he, ⟨hb', fun i hi => ⟨hc.blk (hr i hi).1 (hbne i hi), (hr i hi).2⟩, hm3, hb3, hf3⟩, hc.blk ho hobp, hc.mono fun k _ hk => .inl (.inl hk)⟩
  · have e : protR n rs out (.three rows front back mid fresh) = (.three rows front back mid fresh, out.set (rs - 1) ((rows front).getD (rs - 1) 0), decide (rs = n)) := by simp [protR, w0]
    rw [e]
    have eb : ((rs : Int) == (n : Int)) = decide (rs = n) := by
      rw [Bool.eq_iff_iff]
      simp
      omega
    have hx : (rows front)[rs - 1]? = some ((rows front).getD (rs - 1) 0) := by
      rw [List.getD, List.getElem?_eq_getElem (by have := (hr front hf3).2; omega)]
      rfl
    have hcell : w.cell? ⟨L.row front, rs - 1, none⟩ = some (.int .u64 (((rows front).getD (rs - 1) 0 : Nat) : Int)) := by
      rw [(hr front hf3).1.cell, u64s_at, hx]
      rfl
    have hog : L.ob ≠ L.row front := fun e => hfar (.inr ⟨front, hf3, e⟩)
    have hsz : (u64s out).size = n := (u64s_size _).trans hol
    have fin : ∀ {w' : World}, Blk w' L.ob 38 ((u64s out).setIfInBounds (rs - 1) (.int .u64 (((rows front).getD (rs - 1) 0 : Nat) : Int))) → Chg (· = L.ob) w w' →
        ProtW w' L n (.three rows front back mid fresh) ∧ Blk w' L.ob 38 (u64s (out.set (rs - 1) ((rows front).getD (rs - 1) 0))) ∧ Chg (fun k => Own L (.three rows front back mid fresh) k ∨ k = L.ob) w w' := fun {w'} hb' hc =>
      ⟨h'.keep hc fun k hk e => hfar (by subst e; exact hk), by rw [← u64s_set]; exact hb', hc.mono fun k _ hk => .inr hk⟩
    rcases (by omega : front = 0 ∨ front = 1 ∨ front = 2) with rfl | rfl | rfl
    · refine (threeRs_0 L.bp (L.row 0) L.ob n co rs _ _ back mid fresh _ _ w hb ho hsz hcell (by omega) (by omega) hn hobp hog).mono ?_
      rintro e w' ⟨he, hb', hc⟩
      exact ⟨by rw [he, eb], fin hb' hc⟩
    · refine (threeRs_1 L.bp (L.row 1) L.ob n co rs _ _ back mid fresh _ _ w hb ho hsz hcell (by omega) (by omega) hn hobp hog).mono ?_
      rintro e w' ⟨he, hb', hc⟩
      exact ⟨by rw [he, eb], fin hb' hc⟩
    · refine (threeRs_2 L.bp (L.row 2) L.ob n co rs _ _ back mid fresh _ _ w hb ho hsz hcell (by omega) (by omega) hn hobp hog).mono ?_
      rintro e w' ⟨he, hb', hc⟩
      exact ⟨by rw [he, eb], fin hb' hc⟩

/-- A small step of the reading, of whatever kind. -/
theorem protR_calls {w : World} {L : Lay} {n rs co : Nat} {out : List Nat} {p : Prot} (h : ProtW w L n p) (ho : Blk w L.ob 38 (u64s out)) (hol : out.length = n) (hfar : ¬ Own L p L.ob) (h0 : 0 < n) (hn : n ≤ 4096) (hw : rs ≤ rmax n p) :
    Calls Tryd.prog (fnR p) #[.pointer (some ⟨L.bp, 0, none⟩), .int .i64 (rs : Int), .slice (some ⟨L.ob, 0, none⟩) n co] w fun e w' =>
      e = .returned (.bool (protR n rs out p).2.2) ∧ ProtW w' L n (protR n rs out p).1 ∧ Blk w' L.ob 38 (u64s (protR n rs out p).2.1) ∧ Chg (fun k => Own L p k ∨ k = L.ob) w w' := by
  cases p with
  | four rows latest reading slot wp wq rp rq => exact fourR_calls h ho hol hfar hn hw
  | three rows front back mid fresh => exact threeR_calls h ho hol hfar hn hw
  | one word =>
    have h' := h
    obtain ⟨hb, h1⟩ := h
    refine (oneR L.bp L.ob n co rs _ _ w hb ho ((u64s_size _).trans hol) hn h0).mono ?_
    rintro e w' ⟨he, hb', hc⟩
    refine ⟨he, h'.keep hc fun k hk e => hfar (by subst e; exact hk), ?_, hc.mono fun k _ hk => .inr hk⟩
    rw [u64s_set] at hb'
    exact hb'

end Go.Proofs.YtbdccfgeildebaaDoor
