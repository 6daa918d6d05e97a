/-
  plain.Write, Hands.payload, words, Hands.got. Conditions: the blocks are there; numbers in bounds.
-/
import Derived.Test.YtbdccfgeildebaaDoorPlainW
import Derived.Deep.DeepMust
namespace Go.Proofs.YtbdccfgeildebaaDoor
open Go.RowKit Mem Abs

set_option maxRecDepth 20000 in
set_option maxHeartbeats 1000000 in
theorem plainWrite_busy {B : Nat} {w : World} {br : Nat} {L : Lay} {σ : St} {f : Nat → Addr} {g cap : Nat} {l : List Nat} {cur : Array Value} (h : RegW B w br L σ) (hs : Sent w 4 f) (ha : Apart17 w 4 f) (hr : σ.wr = true)
    (hrow : RowAt w g σ.n l cur) :
    Calls Tryd.prog 13 #[.pointer (some ⟨br, 0, none⟩), .slice (some ⟨g, 0, none⟩) σ.n cap] w fun e w' => e = .returned (.int .i64 3) ∧ Chg (fun _ => False) w w' := by
  obtain ⟨i0, hi0, hz0, hz1, hz2⟩ := info_parts t_info38
  have hps := h.pos
  have hsm := h.small
  have hreads := hid' (hrow.reads (B := w.heap.size) hrow.blk.lt)
  have H := hid' h
  have HS := hid' hs
  have HA := hid' ha
  have HR := hid' hr
  clear h hr hrow hs ha
  go_enter Tryd.func13, Tryd.ntmps13
  go_wp2_with (first
    | (at_builtin; refine wpList_append_any _ rfl (.const (.slice none 0 0)) (.tmp 7) _ rfl w.heap.size 38 i0 _ 1 8 Tryd.underlying39 hi0 hz0 hz1 hz2 rfl (by omega) (.slice none 0 0) 0 [] rfl ⟨by simp, .inl ⟨rfl, rfl⟩⟩ w.heap.size (some ⟨g, 0, none⟩) σ.n cap (vals l) rfl hreads.out (vals_one _) (by simp only [maxLen]; omega) (by omega) (Nat.le_refl _) ?_; intro v1 w1 hown1 hg1 hat1; obtain ⟨g1, cap1, cur1, hv, hgB, hrow'⟩ := own_row (by simpa using hown1) hps; rw [hv]; have hc1 := hid' (Chg.grown (S := fun _ => False) (Chg.refl _) hg1 (by simp [Value.ownBlock])); have hrow := hid' hrow'; have hreg1 := hid' (H.out.keep hc1.out (fun _ _ h => h)); clear hown1 hg1 hat1 hv hrow')
    | (go_at_call 22; refine (writeM_busy _ _ _ hreg1.out (HS.out.chg hc1.out) HR.out).mono ?_; rintro e w2 ⟨rfl, rfl⟩)
    | (go_at_call 19; refine (number_err f 2 (by omega) w1 (HS.out.chg hc1.out) (HA.out.chg hc1.out)).mono ?_; rintro e w2 ⟨rfl, hc2'⟩; have hc2 := hid' hc2'; have cl := clear_row (c := cap1) (hc2.out.blk hrow.out.blk (fun h => h)) hps hrow.out.fits; clear hc2'))
  go_ret
  exact ⟨rfl, Chg.setCells (S := fun _ => False) g1 (.inr hgB) _ 0 w2 (hc1.out.trans hc2.out)⟩

set_option maxRecDepth 20000 in
set_option maxHeartbeats 1000000 in
theorem plainWrite_ok {B : Nat} {w : World} {br : Nat} {L : Lay} {σ : St} {g cap : Nat} {l : List Nat} {cur : Array Value} (h : RegW B w br L σ) (hB : B ≤ w.heap.size) (hr : σ.wr = false)
    (hrow : RowAt w g σ.n l cur) :
    Calls Tryd.prog 13 #[.pointer (some ⟨br, 0, none⟩), .slice (some ⟨g, 0, none⟩) σ.n cap] w fun e w' => e = .returned (.int .i64 0) ∧ RegOk B w' br (σ.write l) ∧ Chg (· = br) w w' := by
  obtain ⟨i0, hi0, hz0, hz1, hz2⟩ := info_parts t_info38
  have hps := h.pos
  have hsm := h.small
  have hreads := hid' (hrow.reads (B := w.heap.size) hrow.blk.lt)
  have hlen := hid' hrow.len
  have H := hid' h
  have HB := hid' hB
  have hbr := h.reg.lt
  have HR := hid' hr
  clear h hr hrow hB
  go_enter Tryd.func13, Tryd.ntmps13
  go_wp2_with (first
    | (at_builtin; refine wpList_append_any _ rfl (.const (.slice none 0 0)) (.tmp 7) _ rfl w.heap.size 38 i0 _ 1 8 Tryd.underlying39 hi0 hz0 hz1 hz2 rfl (by omega) (.slice none 0 0) 0 [] rfl ⟨by simp, .inl ⟨rfl, rfl⟩⟩ w.heap.size (some ⟨g, 0, none⟩) σ.n cap (vals l) rfl hreads.out (vals_one _) (by simp only [maxLen]; omega) (by omega) (Nat.le_refl _) ?_; intro v1 w1 hown1 hg1 hat1; obtain ⟨g1, cap1, cur1, hv, hgB, hrow'⟩ := own_row (by simpa using hown1) hps; rw [hv]; have hc1 := hid' (Chg.grown (S := fun _ => False) (Chg.refl _) hg1 (by simp [Value.ownBlock])); have hrow := hid' hrow'; have hreg1 := hid' (H.out.keep hc1.out (fun _ _ h => h)); have hr1 := hid' (hrow'.reads (B := w1.heap.size) hrow'.blk.lt); have hB1 := hid' (Nat.le_trans HB.out hc1.out.size); clear hown1 hg1 hat1 hv hrow')
    | (go_at_call 22; refine (writeM_ok _ _ l hreg1.out hB1.out HR.out hlen.out hr1.out).mono ?_; rintro e w2 ⟨rfl, hr2', hc2'⟩; have hr2 := hid' hr2'; have hc2 := hid' hc2'; have cl := clear_row (c := cap1) (hc2.out.blk hrow.out.blk (by omega)) hps hrow.out.fits; clear hr2' hc2')
    | (go_at_call 19; refine (number_nil _).mono ?_; rintro e w' ⟨rfl, rfl⟩))
  go_ret
  obtain ⟨L', hr3, hf⟩ := hr2.out
  have hg1 : g1 < w1.heap.size := hrow.out.blk.lt
  have hch2 : Chg (· = g1) w2 (w2.setCells g1 0 (List.replicate σ.n (Value.int IntKind.u64 0))) := Chg.setCells (S := (· = g1)) g1 (.inl rfl) _ 0 w2 (Chg.refl _)
  have hch : Chg (· = br) w w2 := (hc1.out.mono fun _ _ h => h.elim).trans hc2.out
  refine ⟨rfl, ⟨L', hr3.keep hch2 fun k hk e => ?_⟩, Chg.setCells (S := (· = br)) g1 (.inr hgB) _ 0 w2 hch⟩
  subst e
  rcases hf _ hk with e | e
  · have := H.out.foot_lt e
    omega
  · omega

theorem payload_take (k n j : Nat) (h : j < n) : (payload k n).take (j + 1) = (payload k n).take j ++ [k * 1000 + j] := by
  rw [List.take_add_one, payload_at k n j h]
  rfl

/-- What payload leaves. -/
def PayPost (k n : Nat) (w : World) (e : Ending) (w' : World) : Prop :=
  ∃ g cap cur, e = .returned (.slice (some ⟨g, 0, none⟩) n cap) ∧ w.heap.size ≤ g ∧ RowAt w' g n (payload k n) cur ∧ Chg (fun _ => False) w w'

set_option maxRecDepth 20000 in
set_option maxHeartbeats 2000000 in
theorem payload_calls (bh k n : Nat) (w : World) (hw : w.cell? ⟨bh, 0, none⟩ = some (.int .i64 (n : Int))) (hn : 0 < n) (hsm : n ≤ 4096) (hk : k ≤ 4398046511104) :
    Calls Tryd.prog 16 #[.pointer (some ⟨bh, 0, none⟩), .int .i64 (k : Int)] w (PayPost k n w) := by
  obtain ⟨i0, hi0, hz0, hz1, hz2⟩ := info_parts t_info38
  go_enter Tryd.func16, Tryd.ntmps16
  go_wp2_with fail
  go_loopw [5, 6] (fun v i wr => ∃ j : Nat, j ≤ n ∧ i = .int .i64 j ∧ wr.ownsRow w.heap.size 38 1 v j (vals ((payload k n).take j)) ∧ Chg (fun _ => False) w wr) (fun _ i _ => n - (intOf i).toNat)
  case atStart => exact ⟨0, by omega, rfl, ⟨by simp [vals], .inl ⟨rfl, rfl⟩⟩, Chg.refl w⟩
  case round =>
    obtain ⟨j, hj, rfl, hown, hch⟩ := hrel
    have hw1 : wr.cell? ⟨bh, 0, none⟩ = some (.int .i64 (n : Int)) := (World.cell?_of_block (w := w) (hch.block bh (World.block_lt_of_cell? w _ hw) (fun h => h))).trans hw
    have Hch := hid' hch
    have Hown := hid' hown
    have hsz := hch.size
    clear hch hown hw
    by_cases hlt : j < n
    · have m1 : (0 : Int) ≤ (k : Int) * 1000 := by omega
      have m2 : (k : Int) * 1000 ≤ 4398046511104000 := by omega
      have m3 : (0 : Int) ≤ (k : Int) * 1000 + (j : Int) := by omega
      have m4 : (k : Int) * 1000 + (j : Int) ≤ 4398046511108096 := by omega
      have m5 : IntKind.u64.wrap ((k : Int) * 1000 + (j : Int)) = (k : Int) * 1000 + (j : Int) := by rw [IntKind.wrap_u64]; omega
      have hnew := hid' (show Reads (wr.alloc (.cells #[.int .u64 ((k : Int) * 1000 + (j : Int))] 38)) (wr.heap.size + 1) 1 (some ⟨wr.heap.size, 0, none⟩) 1 [.int .u64 ((k : Int) * 1000 + (j : Int))] from
        ⟨rfl, fun _ => ⟨_, rfl, by simp, fun i u hu => by
          have hi : i = 0 := by
            have := (List.getElem?_eq_some_iff.1 hu).1
            simp at this
            omega
          subst hi
          simp at hu
          subst hu
          exact (Blk.new wr 38 _).cell 0⟩⟩)
      go_wp2_with (at_builtin; go_must (refine wpList_append_any _ rfl (.tmp 15) (.tmp 21) _ rfl w.heap.size 38 i0 _ 1 8 Tryd.underlying39 hi0 hz0 hz1 hz2 rfl (by omega) u5 j (vals ((payload k n).take j)) rfl (Hown.out.alloc _) (wr.heap.size + 1) (some ⟨wr.heap.size, 0, none⟩) 1 1 [.int .u64 ((k : Int) * 1000 + (j : Int))] rfl hnew.out (by simp [Value.oneCell']) (by simp only [maxLen]; omega) (by omega) (by simp; omega) ?_); intro v1 w1 hown1' hg1 hat1; have hown1 := hid' hown1'; have hc1 := hid' (Chg.grown (S := fun _ => False) (Hch.out.alloc (.cells #[.int .u64 ((k : Int) * 1000 + (j : Int))] 38)) hg1 (fun g hg => .inr ((Hown.out.lt g hg).1))); clear hown1' hg1 hat1)
      go_roundw
      case rel => exact ⟨j + 1, by omega, by go_num, by rw [payload_take k n j hlt]; simpa [vals] using hown1.out, hc1.out⟩
      case measure => simp [intOf]; omega
    · obtain rfl : j = n := by omega
      go_wp2
      go_ret
      have ho : wr.ownsRow w.heap.size 38 1 u5 j (vals (payload k j)) := by
        have := Hown.out
        rwa [List.take_of_length_le (by rw [payload_length]; omega)] at this
      obtain ⟨g, cap, cur, hv, hgB, hrow⟩ := own_row ho hn
      exact ⟨g, cap, cur, by rw [← hv]; rfl, hgB, hrow, Hch.out⟩

set_option maxRecDepth 20000 in
set_option maxHeartbeats 2000000 in
theorem words_calls (g1 g2 n c1 c2 : Nat) (l : List Nat) (cur1 cur2 : Array Value) (w : World) (h1 : RowAt w g1 n l cur1) (h2 : RowAt w g2 n l cur2) (hsm : n ≤ 4096) :
    Calls Tryd.prog 27 #[.slice (some ⟨g1, 0, none⟩) n c1, .slice (some ⟨g2, 0, none⟩) n c2] w fun e w' => e = .returned (.bool true) ∧ Chg (fun _ => False) w w' := by
  have H1 := hid' h1
  have H2 := hid' h2
  clear h1 h2
  go_enter Tryd.func27, Tryd.ntmps27
  go_wp2_with fail
  go_loopw [5] (fun i wr => ∃ j : Nat, j ≤ n ∧ i = .int .i64 j ∧ Chg (fun _ => False) w wr) (fun i _ => n - (intOf i).toNat)
  case atStart => exact ⟨0, by omega, rfl, Chg.refl w⟩
  case round =>
    obtain ⟨j, hj, rfl, hch⟩ := hrel
    have Hch := hid' hch
    clear hch
    by_cases hlt : j < n
    · obtain ⟨x, hx⟩ : ∃ x, l[j]? = some x := ⟨_, List.getElem?_eq_getElem (by have := H1.out.len; omega)⟩
      have k1 := (H1.out.keep Hch.out (fun h => h)).cell j x hx
      have k2 := (H2.out.keep Hch.out (fun h => h)).cell j x hx
      have HX := hid' hx
      clear hx
      have i1 : (0 : Int) ≤ (j : Int) := by omega
      have i2 : (j : Int) < (n : Int) := by omega
      go_wp2_with fail
      go_quiet (fail)
      go_wp2_with fail
      go_roundw
      case rel => exact ⟨j + 1, by omega, by go_num, Hch.out.drewN _⟩
      case measure => simp [intOf]; omega
    · go_wp2
      go_ret
      exact ⟨rfl, Hch.out⟩
end Go.Proofs.YtbdccfgeildebaaDoor
