/- slices.Clone, nat.Make and nat.Shl once more: what comes back lies in memory of its own. -/
import Derived.Test.YtopbfgmpilnghaaDoorGuess
set_option linter.unusedVariables false
set_option linter.unusedSimpArgs false
namespace Go.Proofs.YtopbfgmpilnghaaDoor
open Go.RowKit

theorem owns_nil (w : World) (base : Nat) (e : TypeId) : w.ownsRow base e 1 (.slice none 0 0) 0 [] := ⟨rfl, .inl ⟨rfl, rfl⟩⟩
theorem owns_low {w : World} {base base' : Nat} {e : TypeId} {v : Value} {n : Nat} {xs : List Value} (h : w.ownsRow base e 1 v n xs) (hb : base' ≤ base) : w.ownsRow base' e 1 v n xs := by
  refine ⟨h.1, ?_⟩
  rcases h.2 with h | ⟨g, cap, cur, h1, h2, h3⟩
  · exact .inl h
  · exact .inr ⟨g, cap, cur, h1, Nat.le_trans hb h2, h3⟩

set_option maxHeartbeats 400000 in
theorem clone_own_some (b off n cap : Nat) (f : Nat → Nat) (w : World) (hn : n * 4 ≤ 140737488355328) (hc : Hid (∀ j, j < n → w.cell? ⟨b, off + j, none⟩ = some (.int .u32 (f j)))) :
    Calls Tryd.prog 103 #[.slice (some ⟨b, off, none⟩) n cap] w fun e w' => ∃ v, e = .returned v ∧ w'.ownsRow w.heap.size 46 1 v (n) (cellsOf .u32 (n) f) ∧ Below w.heap.size w w' := by
  obtain ⟨i0, hi, hz0, hz1, hz2⟩ := info_parts info_u32
  have q22 : ∀ (w : World) (a : Option Addr) (n c n' c' : Nat), (binOp .eql 22 (.slice a n c) (.slice none n' c')).run Tryd.prog w = .ok (.bool a.isNone) w := fun w a n c n' c' => Lib.run_eql_slice_nil w _ _ a n c n' c' Tryd.underlying22
  go_enter Tryd.func103, Tryd.ntmps103
  go_wp2_with (at_builtin; refine wpList_append_own _ rfl _ _ 22 rfl w.heap.size 46 i0 (.int .u32 0) 1 4 Tryd.underlying22 hi hz0 hz1 hz2 rfl (by decide) _ _ _ rfl (World.ownsRow_made w #[] 0 (Nat.le_refl _) (Nat.zero_le _) rfl) ⟨b, off, none⟩ n cap (cellsOf .u32 n f) rfl ?qc1 ?qc2 ?qc3 ?qc4 ?qc5 ?qc6 ?_)
  case qc1 => rw [cellsOf_length]; omega
  case qc2 =>
    intro j u hj
    have hjn : j < n := by
      have := (List.getElem?_eq_some_iff.1 hj).1
      rw [cellsOf_length] at this
      omega
    rw [Addr.add_lit]
    refine Lib.cell?_alloc_some _ ?_
    rw [hc.out j hjn, ← hj, cellsOf_get _ _ _ _ hjn]
  case qc3 => intro u hu; unfold cellsOf at hu; obtain ⟨x, _, rfl⟩ := List.mem_map.1 hu; rfl
  case qc4 => unfold maxLen; omega
  case qc5 => omega
  case qc6 => simp
  intro v' w1 hown hgrow hnil
  go_wp2
  go_ret
  refine ⟨v', rfl, ?_, ?_⟩
  · simpa using hown
  · exact ((Below.refl _ w).alloc (Nat.le_refl _) _).grown hgrow (by simp) (by intro k hk; simp [Value.ownBlock] at hk; omega)

set_option maxHeartbeats 400000 in
theorem clone_own_zero (ad : Addr) (cap : Nat) (f : Nat → Nat) (w : World) :
    Calls Tryd.prog 103 #[.slice (some ad) 0 cap] w fun e w' => ∃ v, e = .returned v ∧ w'.ownsRow w.heap.size 46 1 v (0) (cellsOf .u32 (0) f) ∧ Below w.heap.size w w' := by
  obtain ⟨i0, hi, hz0, hz1, hz2⟩ := info_parts info_u32
  have q22 : ∀ (w : World) (a : Option Addr) (n c n' c' : Nat), (binOp .eql 22 (.slice a n c) (.slice none n' c')).run Tryd.prog w = .ok (.bool a.isNone) w := fun w a n c n' c' => Lib.run_eql_slice_nil w _ _ a n c n' c' Tryd.underlying22
  go_enter Tryd.func103, Tryd.ntmps103
  go_wp2_with (at_builtin; refine wpList_append_own _ rfl _ _ 22 rfl w.heap.size 46 i0 (.int .u32 0) 1 4 Tryd.underlying22 hi hz0 hz1 hz2 rfl (by decide) _ _ _ rfl (World.ownsRow_made w #[] 0 (Nat.le_refl _) (Nat.zero_le _) rfl) ad 0 cap [] rfl rfl (by intro j u hj; simp at hj) (by intro u hu; cases hu) (by unfold maxLen; omega) (by omega) (by simp) ?_)
  intro v' w1 hown hgrow hnil
  go_wp2
  go_ret
  refine ⟨v', rfl, ?_, ?_⟩
  · simpa [cellsOf] using hown
  · exact ((Below.refl _ w).alloc (Nat.le_refl _) _).grown hgrow (by simp) (by intro k hk; simp [Value.ownBlock] at hk; omega)

theorem clone_own_nil (cap n : Nat) (f : Nat → Nat) (w : World) :
    Calls Tryd.prog 103 #[.slice none n cap] w fun e w' => ∃ v, e = .returned v ∧ w'.ownsRow w.heap.size 46 1 v (0) (cellsOf .u32 (0) f) ∧ Below w.heap.size w w' := by
  have q22 : ∀ (w : World) (a : Option Addr) (n c n' c' : Nat), (binOp .eql 22 (.slice a n c) (.slice none n' c')).run Tryd.prog w = .ok (.bool a.isNone) w := fun w a n c n' c' => Lib.run_eql_slice_nil w _ _ a n c n' c' Tryd.underlying22
  go_enter Tryd.func103, Tryd.ntmps103
  go_wp2
  go_ret
  exact ⟨_, rfl, owns_nil _ _ _, Below.refl _ _⟩

/-- slices.Clone: the same elements in memory of its own. -/
theorem clone_own {v : Value} {n : Nat} {f : Nat → Nat} {w : World} (h : Rd .u32 w v n f) (hn : n * 4 ≤ 140737488355328) :
    Calls Tryd.prog 103 #[v] w fun e w' => ∃ v, e = .returned v ∧ w'.ownsRow w.heap.size 46 1 v (n) (cellsOf .u32 (n) f) ∧ Below w.heap.size w w' := by
  obtain ⟨ao, cap, rfl, hcap, hm, hc⟩ := h
  by_cases h0 : n = 0
  · subst h0
    cases ao with
    | none => exact clone_own_nil cap 0 f w
    | some ad => exact clone_own_zero ad cap f w
  · obtain ⟨b, off, rfl, hb, hcl⟩ := hc (by omega)
    exact clone_own_some b off n cap f w hn hcl

set_option maxRecDepth 100000 in
set_option maxHeartbeats 400000 in
theorem make_own_some (b off n cap : Nat) (f : Nat → Nat) (w : World) (hn : n * 4 ≤ 140737488355328) (hcap : n ≤ cap) (hm : cap ≤ maxLen) (hb : b < w.heap.size) (hc : Hid (∀ j, j < n → w.cell? ⟨b, off + j, none⟩ = some (.int .u32 (f j)))) :
    Calls Tryd.prog 86 #[.slice (some ⟨b, off, none⟩) n cap] w fun e w' => ∃ v, e = .returned v ∧ w'.ownsRow w.heap.size 46 1 v (trim f n) (cellsOf .u32 (trim f n) f) ∧ Below w.heap.size w w' := by
  go_enter Tryd.func86, Tryd.ntmps86
  go_wp2
  go_loop [3] (fun i => ∃ k : Nat, k ≤ n ∧ i = .int .i64 k ∧ Hid (trim f n = trim f k)) (fun i => (intOf i).toNat)
  case atStart => exact ⟨n, Nat.le_refl _, rfl, rfl⟩
  case round =>
    obtain ⟨k, hk, rfl, hz⟩ := hrel
    unfold maxLen at hm
    by_cases h0 : k = 0
    · subst h0
      go_wp2_with (go_at_call 103; refine (clone_own (sl_to (Nat.zero_le n) hcap (by unfold maxLen; omega) hb hc.out) (by omega)).mono ?_; rintro e w' ⟨v, rfl, hv, hbl⟩)
      go_ret
      exact ⟨v, rfl, by rw [hz.out]; exact hv, hbl⟩
    · have hcell := hc.out (k - 1) (by omega)
      by_cases hf : f (k - 1) = 0
      · go_wp2
        go_round
        case rel => exact ⟨k - 1, by omega, by go_num, by unfold Hid; rw [hz.out]; exact trim_same f k (k - 1) (by omega) (fun j h1 h2 => by rw [show j = k - 1 from by omega]; exact hf)⟩
        case measure => simp [intOf]; omega
      · go_wp2_with (go_at_call 103; refine (clone_own (sl_to hk hcap (by unfold maxLen; omega) hb hc.out) (by omega)).mono ?_; rintro e w' ⟨v, rfl, hv, hbl⟩)
        go_ret
        have e : trim f k = k := by
          obtain ⟨m, rfl⟩ : ∃ m, k = m + 1 := ⟨k - 1, by omega⟩
          rw [Nat.add_sub_cancel] at hf
          simp only [trim]
          rw [if_neg hf]
        exact ⟨v, rfl, by rw [hz.out, e]; exact hv, hbl⟩

/-- nat.Make: the row without the noughts at its end. -/
theorem make_own {v : Value} {n : Nat} {f : Nat → Nat} {w : World} (h : Rd .u32 w v n f) (hn : n * 4 ≤ 140737488355328) :
    Calls Tryd.prog 86 #[v] w fun e w' => ∃ v, e = .returned v ∧ w'.ownsRow w.heap.size 46 1 v (trim f n) (cellsOf .u32 (trim f n) f) ∧ Below w.heap.size w w' := by
  obtain ⟨ao, cap, rfl, hcap, hm, hc⟩ := h
  by_cases h0 : n = 0
  · subst h0
    go_enter Tryd.func86, Tryd.ntmps86
    go_wp2
    go_loop [3] (fun i => i = .int .i64 0) (fun i => (intOf i).toNat)
    case atStart => rfl
    case round =>
      subst hrel
      unfold maxLen at hm
      go_wp2_with (go_at_call 103; refine (clone_own (f := f) ⟨ao, cap, rfl, by omega, (by unfold maxLen; omega), fun h => absurd h (by omega)⟩ (by omega)).mono ?_; rintro e w' ⟨v, rfl, hv, hbl⟩)
      go_ret
      exact ⟨v, rfl, hv, hbl⟩
  · obtain ⟨b, off, rfl, hb, hcl⟩ := hc (by omega)
    exact make_own_some b off n cap f w hn hcap hm hb hcl

set_option maxRecDepth 100000 in
set_option maxHeartbeats 1000000 in
theorem shl_own_row {b off m cap n : Nat} {f : Nat → Nat} {w : World} (hm : m ≤ 536870912) (hm0 : 0 < m) (hn : n ≤ 17179869184) (hf : Hid (Fits m f)) (hB : Hid (b < w.heap.size))
    (hc : Hid (∀ j, j < m → w.cell? ⟨b, off + j, none⟩ = some (.int .u32 (f j)))) :
    Calls Tryd.prog 79 #[.slice (some ⟨b, off, none⟩) m cap, .int .i64 n] w fun e w' => ∃ v, e = .returned v ∧ w'.ownsRow w.heap.size 46 1 v (trim (shlG f (n / 32) (n % 32) m) (n / 32 + m + 1)) (cellsOf .u32 (trim (shlG f (n / 32) (n % 32) m) (n / 32 + m + 1)) (shlG f (n / 32) (n % 32) m)) ∧ Below w.heap.size w w' := by
  obtain ⟨i0, hi, hz0, hz1, hz2⟩ := info_parts info_u32
  have hm1 : ((m : Int) == 0) = false := by simp; omega
  have hq : n / 32 ≤ 536870912 := by omega
  go_enter Tryd.func79, Tryd.ntmps79
  go_wp2_with (at_make; refine wpList_make_row _ rfl _ _ 22 rfl 46 i0 .u32 Tryd.underlying22 hi hz0 hz1 _ _ _ _ (n / 32) (n / 32 + m + 1) rfl rfl (by omega) (by omega) (by omega) (by rw [hz2]; omega) (by omega) ?_; intro w1 hown hgrow hsz)
  have hrow : w1.ownsRow w.heap.size 46 1 (.slice (some ⟨w.heap.size, 0, none⟩) (n / 32) (n / 32 + m + 1)) (n / 32) (cellsOf .u32 (n / 32) (shlG f (n / 32) (n % 32) m)) := by
    rw [cellsOf_congr _ _ _ (fun _ => 0) (fun j hj => by unfold shlG; rw [if_pos hj])]
    exact hown.owns (by omega) (by unfold maxLen; omega) (Nat.le_refl _)
  have hbw : Below w.heap.size w w1 := (Below.refl _ w).grown hgrow (Nat.le_refl _) (fun k e => by cases e)
  have HROW := Lib.hid hrow
  have HBW := Lib.hid hbw
  clear hown hgrow hsz hrow hbw hq
  go_loopw [5, 7, 26] (fun v lo i wr => ∃ k : Nat, k ≤ m ∧ i = .int .i64 k ∧ v = .slice (some ⟨w.heap.size, 0, none⟩) (n / 32 + k) (n / 32 + m + 1) ∧ lo = .int .u32 (shlLow f (n % 32) k) ∧
    Hid (wr.ownsRow w.heap.size 46 1 (.slice (some ⟨w.heap.size, 0, none⟩) (n / 32 + k) (n / 32 + m + 1)) (n / 32 + k) (cellsOf .u32 (n / 32 + k) (shlG f (n / 32) (n % 32) m))) ∧ Hid (Below w.heap.size w wr)) (fun _ _ i _ => m - (intOf i).toNat)
  case atStart => exact ⟨0, Nat.zero_le _, rfl, rfl, rfl, HROW, HBW⟩
  case round =>
    obtain ⟨k, hk, rfl, rfl, rfl, hown, hbw⟩ := hrel
    by_cases hlt : k < m
    · have hcell : wr.cell? ⟨b, off + k, none⟩ = _ := (hbw.out.cell (p := ⟨b, off + k, none⟩) hB.out).trans (hc.out k hlt)
      have hfk := hf.out k hlt
      have hs : n % 32 < 32 := Nat.mod_lt _ (by omega)
      have hor : bits .or .u32 ((f k : Int) * 2 ^ (n % 32) % 4294967296) (shlLow f (n % 32) k : Int) = (shlG f (n / 32) (n % 32) m (n / 32 + k) : Int) := by
        rw [or_low_int _ _ _ hfk hs (shlLow_lt hf.out hs (by omega))]
        unfold shlG
        rw [if_neg (by omega), if_pos (by omega), Nat.add_sub_cancel_left]
      have hp0 : (0 : Int) ≤ (f k : Int) * 2 ^ (n % 32) := Int.mul_nonneg (by omega) (Int.le_of_lt (Int.pow_pos (by omega)))
      have hp1 : (f k : Int) * 2 ^ (n % 32) ≤ 9223372034707292160 := by
        have h1 : f k * 2 ^ (n % 32) ≤ 4294967295 * 2147483648 := Nat.mul_le_mul (by omega) (pow_le_31 hs).2
        have h2 : ((f k * 2 ^ (n % 32) : Nat) : Int) ≤ 9223372034707292160 := by omega
        simpa using h2
      go_wp2_with (at_builtin; go_must (refine wpList_append_fits _ rfl _ _ 22 rfl w.heap.size 46 i0 1 Tryd.underlying22 hi hz1 w.heap.size (n / 32 + k) (n / 32 + m + 1) _ rfl (hown.out.alloc _) ⟨_, 0, none⟩ 1 1 [.int .u32 (shlG f (n / 32) (n % 32) m (n / 32 + k) : Int)] rfl rfl (cell_one_new _ _ _) (by simp [Value.oneCell']) (by omega) ?_); intro w2 hown2 hg2)
      have hbs := hbw.out.size
      go_roundw
      case rel => exact ⟨k + 1, by omega, by go_num, rfl, by simp [shlLow], by
          have := hown2
          rw [← cellsOf_snoc] at this
          exact this, Below.grown (hbw.out.alloc hbs _) hg2 (by simp; omega) (fun j e => by cases e; omega)⟩
      case measure => simp [intOf]; omega
    · obtain rfl : k = m := by omega
      have hlow : (shlLow f (n % 32) k : Int) = (shlG f (n / 32) (n % 32) k (n / 32 + k) : Int) := by
        unfold shlG
        rw [if_neg (by omega), if_neg (by omega)]
      have hbs := Lib.hid hbw.out.size
      have hg : Hid (Fits (n / 32 + k + 1) (shlG f (n / 32) (n % 32) k)) := shlG_fits hf.out (Nat.mod_lt _ (by omega))
      go_wp2_with (first
        | (at_builtin; refine wpList_append_fits _ rfl _ _ 22 rfl w.heap.size 46 i0 1 Tryd.underlying22 hi hz1 w.heap.size (n / 32 + k) (n / 32 + k + 1) _ rfl (hown.out.alloc _) ⟨_, 0, none⟩ 1 1 [.int .u32 (shlG f (n / 32) (n % 32) k (n / 32 + k) : Int)] rfl rfl (cell_one_new _ _ _) (by simp [Value.oneCell']) (by omega) ?_; intro w2 hown2 hg2; rw [← cellsOf_snoc] at hown2; have HO2 := Lib.hid hown2; have HG2 := Lib.hid hg2; clear hown2 hg2)
        | (go_at_call 86; refine (make_own (Rd.of_own HO2.out) (by omega)).mono ?_; rintro e w3 ⟨v, rfl, hv, hb3⟩))
      go_ret
      have hb2 : Below w.heap.size w w2 := Below.grown (hbw.out.alloc hbs.out _) HG2.out (by have := hbs.out; simp; omega) (fun j e => by cases e; omega)
      exact ⟨v, rfl, owns_low hv hb2.size, hb2.trans (hb3.mono hb2.size)⟩

/-- A natural in memory of its own. -/
def OwnNt (base : Nat) (w : World) (v : Value) (a : Nat) : Prop := ∃ f, w.ownsRow base 46 1 v (limbs a) (cellsOf .u32 (limbs a) f) ∧ Fits (limbs a) f ∧ nv f (limbs a) = a
theorem OwnNt.of {base : Nat} {w : World} {v : Value} {n : Nat} {g : Nat → Nat} (h : w.ownsRow base 46 1 v (trim g n) (cellsOf .u32 (trim g n) g)) (hg : Fits n g) : OwnNt base w v (nv g n) := by
  have e : limbs (nv g n) = trim g n := by
    rw [← trim_nv g n]
    exact limbs_nv (hg.mono (trim_le g n)) (trim_norm g n)
  exact ⟨g, by rw [e]; exact h, by rw [e]; exact hg.mono (trim_le g n), by rw [e]; exact trim_nv g n⟩
theorem shl_own {v : Value} {a n : Nat} {w : World} (ha : Nt w v a) (la : limbs a ≤ 536870912) (hn : n ≤ 17179869184) (i : Int) (hi : i = n) :
    Calls Tryd.prog 79 #[v, .int .i64 i] w fun e w' => ∃ v, e = .returned v ∧ OwnNt w.heap.size w' v (a * 2 ^ n) ∧ Below w.heap.size w w' := by
  subst hi
  obtain ⟨ao, cap, f, rfl, ra, fta, na, va⟩ := ha.open
  by_cases h0 : limbs a = 0
  · rw [h0] at va ⊢
    obtain rfl : a = 0 := va.symm
    refine (shl_none hn).mono fun e w' ⟨he, hw⟩ => ⟨_, he, ?_, by subst hw; exact Below.refl _ _⟩
    have := OwnNt.of (base := w.heap.size) (w := w') (v := .slice none 0 0) (n := 0) (g := fun _ => 0) (owns_nil _ _ _) (fun _ h => absurd h (by omega))
    rw [Nat.zero_mul]; exact this
  · obtain ⟨b, off, rfl, hb, hc⟩ := ra.at (by omega)
    refine (shl_own_row la (by omega) hn fta hb hc).mono fun e w' ⟨v, he, hv, hbl⟩ => ⟨v, he, ?_, hbl⟩
    have := OwnNt.of hv (shlG_fits fta (Nat.mod_lt _ (by omega)))
    rw [shl_law fta, va] at this
    exact this
end Go.Proofs.YtopbfgmpilnghaaDoor
