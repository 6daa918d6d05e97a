/-
  pick: a number below n, of any number. Condition: 0 < n ≤ 40.
-/
import Derived.Test.YtbdccfgeildebaaDoorNew3
namespace Go.Proofs.YtbdccfgeildebaaDoor
open Go.RowKit Mem Abs

theorem wrap_range (x : Int) : -9223372036854775808 ≤ IntKind.i64.wrap x ∧ IntKind.i64.wrap x ≤ 9223372036854775807 := by
  rw [IntKind.wrap_i64]
  omega

def PickPost (n : Nat) (w : World) (e : Ending) (w' : World) : Prop := ∃ r : Nat, r < n ∧ e = .returned (.int .i64 (r : Int)) ∧ w = w'

theorem pick_calls (c : Int) (n : Nat) (w : World) (hc : -9223372036854775808 ≤ c) (hc2 : c ≤ 9223372036854775807) (hn : 0 < n) (hn2 : n ≤ 40) :
    Calls Tryd.prog 15 #[.int .i64 c, .int .i64 (n : Int)] w (PickPost n w) := by
  have key : ∀ d : Int, 0 ≤ d → ∃ r : Nat, r < n ∧ d % (n : Int) = (r : Int) := fun d h0 => by
    have h2 := Int.emod_nonneg d (show (n : Int) ≠ 0 by omega)
    have h3 := Int.emod_lt_of_pos d (show (0 : Int) < n by omega)
    exact ⟨(d % (n : Int)).toNat, by omega, by omega⟩
  have nz : ((n : Int) == 0) = false := beq_eq_false_iff_ne.2 (by omega)
  have nz2 : ¬ (n : Int) = 0 := by omega
  by_cases h0 : c < 0
  · have e1 : IntKind.i64.wrap (c + 1) = c + 1 := IntWalk.i64_in _ (by omega)
    have e2 : IntKind.i64.wrap (-(c + 1)) = -(c + 1) := IntWalk.i64_in _ (by omega)
    obtain ⟨r, hr, hk⟩ := key (-(c + 1)) (by omega)
    have hd : decide (c < 0) = true := decide_eq_true h0
    clear key
    go_enter Tryd.func15, Tryd.ntmps15
    go_wp2_with fail
    go_ret
    have e3 : -(c + 1).tmod (n : Int) = (r : Int) := by rw [← hk, ← Int.tmod_eq_emod_of_nonneg (by omega), Int.neg_tmod]
    exact ⟨r, hr, congrArg (fun z : Int => Ending.returned (.int .i64 z)) e3, rfl⟩
  · obtain ⟨r, hr, hk⟩ := key c (by omega)
    have hd : decide (c < 0) = false := decide_eq_false h0
    clear key
    go_enter Tryd.func15, Tryd.ntmps15
    go_wp2_with fail
    go_ret
    exact ⟨r, hr, by first | rfl | exact congrArg (fun z : Int => Ending.returned (.int .i64 z)) hk, rfl⟩

theorem RegOk.lower {B B' : Nat} {w : World} {br : Nat} {σ : St} (h : RegOk B w br σ) (hB : B' ≤ B) : RegOk B' w br σ := by
  obtain ⟨L, h⟩ := h
  exact ⟨L, h.reg, h.prot, h.sep, fun e => ⟨(h.pay e).1, (h.pay e).2.1, (h.pay e).2.2.1, (h.pay e).2.2.2.1, Nat.le_trans hB (h.pay e).2.2.2.2⟩,
    fun e => ⟨(h.out e).1, (h.out e).2.1, (h.out e).2.2.1, (h.out e).2.2.2.1, Nat.le_trans hB (h.out e).2.2.2.2.1, (h.out e).2.2.2.2.2⟩, Nat.le_trans hB h.lowr, fun k hk => Nat.le_trans hB (h.low k hk), h.pos, h.small, h.wle, h.rle⟩

def NewPost (kind n : Nat) (l : List Nat) (w : World) (e : Ending) (w' : World) : Prop :=
  e = .returned (.tuple #[.pointer (some ⟨w.heap.size, 0, none⟩), .nilIface]) ∧ RegOk w.heap.size w' w.heap.size (newSt kind n l) ∧ Chg (fun _ => False) w w'

theorem new_calls (kind g n cap : Nat) (l : List Nat) (cur : Array Value) (w : World) (hk0 : 1 ≤ kind) (hk : kind ≤ 3) (h3 : kind = 3 → n = 1) (hrow : RowAt w g n l cur) (hn : 0 < n) (hsm : n ≤ 4096) :
    Calls Tryd.prog 18 #[.int .i64 (kind : Int), .slice (some ⟨g, 0, none⟩) n cap] w (NewPost kind n l w) := by
  rcases (by omega : kind = 1 ∨ kind = 2 ∨ kind = 3) with rfl | rfl | rfl
  · exact new_four g n cap l cur w hrow hn hsm
  · exact new_three g n cap l cur w hrow hn hsm
  · obtain rfl := h3 rfl
    have hl := hrow.len
    rcases l with _ | ⟨x, _ | ⟨y, r⟩⟩
    · simp at hl
    · exact new_one g cap x cur w hrow
    · simp at hl

/-- plain.Register leaves a register of its own. -/
def RegisterPost (kind n : Nat) (l : List Nat) (w : World) (e : Ending) (w' : World) : Prop :=
  ∃ br, e = .returned (.tuple #[.pointer (some ⟨br, 0, none⟩), .int .i64 0]) ∧ w.heap.size ≤ br ∧ RegOk w.heap.size w' br (newSt kind n l) ∧ Chg (fun _ => False) w w'

set_option maxRecDepth 20000 in
set_option maxHeartbeats 1000000 in
theorem register_calls (kind g n cap : Nat) (l : List Nat) (cur : Array Value) (w : World) (hk0 : 1 ≤ kind) (hk : kind ≤ 3) (h3 : kind = 3 → n = 1) (hrow : RowAt w g n l cur) (hn : 0 < n) (hsm : n ≤ 4096) :
    Calls Tryd.prog 10 #[.int .i64 (kind : Int), .slice (some ⟨g, 0, none⟩) n cap] w (RegisterPost kind n l w) := by
  obtain ⟨i0, hi0, hz0, hz1, hz2⟩ := info_parts t_info38
  have hreads := hid' (hrow.reads (B := w.heap.size) hrow.blk.lt)
  have hk0' := hid' hk0
  have hk' := hid' hk
  have h3' := hid' h3
  clear hrow hk0 hk h3
  go_enter Tryd.func10, Tryd.ntmps10
  go_wp2_with (first
    | (at_builtin; refine wpList_append_any _ rfl (.const (.slice none 0 0)) (.tmp 9) _ rfl w.heap.size 38 i0 _ 1 8 Tryd.underlying39 hi0 hz0 hz1 hz2 rfl (by omega) (.slice none 0 0) 0 [] rfl ⟨by simp, .inl ⟨rfl, rfl⟩⟩ w.heap.size (some ⟨g, 0, none⟩) n cap (vals l) rfl hreads.out (vals_one _) (by simp only [maxLen]; omega) (by omega) (Nat.le_refl _) ?_; intro v1 w1 hown1 hg1 hat1; obtain ⟨g1, cap1, cur1, hv, hgB, hrow'⟩ := own_row (by simpa using hown1) hn; rw [hv]; have hc1 := hid' (Chg.grown (S := fun _ => False) (Chg.refl _) hg1 (by simp [Value.ownBlock])); have hrow := hid' hrow'; have hsz := hc1.out.size; have HN := hid' (new_calls kind g1 n cap1 l cur1 w1 hk0'.out hk'.out h3'.out hrow.out hn hsm); clear hown1 hg1 hat1 hv hrow')
    | (go_at_call 18; refine HN.out.mono ?_; rintro e w2 ⟨rfl, hr2', hc2'⟩; have hr2 := hid' hr2'; have hc2 := hid' hc2'; have cl := clear_row (c := cap1) (hc2.out.blk hrow.out.blk (fun h => h)) hn hrow.out.fits; clear hr2' hc2')
    | (go_at_call 19; refine (number_nil _).mono ?_; rintro e w' ⟨rfl, rfl⟩))
  go_ret2
  have hg1 : g1 < w1.heap.size := hrow.out.blk.lt
  have hch2 : Chg (· = g1) w2 (w2.setCells g1 0 (List.replicate n (Value.int IntKind.u64 0))) := Chg.setCells (S := (· = g1)) g1 (.inl rfl) _ 0 w2 (Chg.refl _)
  obtain ⟨L', hr3⟩ := hr2.out
  refine ⟨w1.heap.size, rfl, hsz, RegOk.lower ⟨L', hr3.keep hch2 fun k hk e => ?_⟩ hsz, Chg.setCells (S := fun _ => False) g1 (.inr hgB) _ 0 w2 (hc1.out.trans hc2.out)⟩
  subst e
  rcases hk with e | e | ⟨e1, e2⟩ | ⟨e1, e2⟩
  · omega
  · have := hr3.low _ e; omega
  · simp [newSt] at e1
  · simp [newSt] at e1
end Go.Proofs.YtbdccfgeildebaaDoor
