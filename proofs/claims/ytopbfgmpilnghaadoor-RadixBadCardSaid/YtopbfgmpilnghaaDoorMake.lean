/- slices.Clone and nat.Make at every row of limbs: what comes back reads as the row without noughts at its end. -/
import Derived.Test.YtopbfgmpilnghaaDoorBase
set_option linter.unusedVariables false
namespace Go.Proofs.YtopbfgmpilnghaaDoor
open Go.RowKit

theorem info_u32 : (Tryd.prog.info? 46).map (fun i => (i.zero, i.size, i.bytes)) = some (some (.int .u32 0), 1, 4) := by kernel_rfl

set_option maxHeartbeats 400000 in
theorem clone_some (b off n cap : Nat) (f : Nat → Nat) (w : World) (hn : n * 4 ≤ 140737488355328) (hc : Hid (∀ j, j < n → w.cell? ⟨b, off + j, none⟩ = some (.int .u32 (f j)))) :
    Calls Tryd.prog 103 #[.slice (some ⟨b, off, none⟩) n cap] w fun e w' => ∃ v, e = .returned v ∧ Rd .u32 w' v n f ∧ Below w.heap.size w w' := by
  obtain ⟨i0, hi, hz0, hz1, hz2⟩ := info_parts info_u32
  have q22 : ∀ (w : World) (a : Option Addr) (n c n' c' : Nat), (binOp .eql 22 (.slice a n c) (.slice none n' c')).run Tryd.prog w = .ok (.bool a.isNone) w := fun w a n c n' c' => Lib.run_eql_slice_nil w _ _ a n c n' c' Tryd.underlying22
  go_enter Tryd.func103, Tryd.ntmps103
  go_wp2_with (at_builtin; refine wpList_append_own _ rfl _ _ 22 rfl w.heap.size 46 i0 (.int .u32 0) 1 4 Tryd.underlying22 hi hz0 hz1 hz2 rfl (by decide) _ _ _ rfl (World.ownsRow_made w #[] 0 (Nat.le_refl _) (Nat.zero_le _) rfl) ⟨b, off, none⟩ n cap (cellsOf .u32 n f) rfl ?qc1 ?qc2 ?qc3 ?qc4 ?qc5 ?qc6 ?_)
  case qc1 => rw [cellsOf_length]; omega
  case qc2 =>
    intro j u hj
    have hjn : j < n := by
      have := (List.getElem?_eq_some_iff.1 hj).1
      rw [cellsOf_length] at this
      omega
    rw [Addr.add_lit]
    refine Lib.cell?_alloc_some _ ?_
    rw [hc.out j hjn, ← hj, cellsOf_get _ _ _ _ hjn]
  case qc3 => intro u hu; unfold cellsOf at hu; obtain ⟨x, _, rfl⟩ := List.mem_map.1 hu; rfl
  case qc4 => unfold maxLen; omega
  case qc5 => omega
  case qc6 => simp
  intro v' w1 hown hgrow hnil
  go_wp2
  go_ret
  refine ⟨v', rfl, ?_, ?_⟩
  · refine Rd.of_own (base := w.heap.size) (e := 46) ?_
    simpa using hown
  · exact ((Below.refl _ w).alloc (Nat.le_refl _) _).grown hgrow (by simp) (by intro k hk; simp [Value.ownBlock] at hk; omega)

set_option maxHeartbeats 400000 in
theorem clone_zero (ad : Addr) (cap : Nat) (f : Nat → Nat) (w : World) :
    Calls Tryd.prog 103 #[.slice (some ad) 0 cap] w fun e w' => ∃ v, e = .returned v ∧ Rd .u32 w' v 0 f ∧ Below w.heap.size w w' := by
  obtain ⟨i0, hi, hz0, hz1, hz2⟩ := info_parts info_u32
  have q22 : ∀ (w : World) (a : Option Addr) (n c n' c' : Nat), (binOp .eql 22 (.slice a n c) (.slice none n' c')).run Tryd.prog w = .ok (.bool a.isNone) w := fun w a n c n' c' => Lib.run_eql_slice_nil w _ _ a n c n' c' Tryd.underlying22
  go_enter Tryd.func103, Tryd.ntmps103
  go_wp2_with (at_builtin; refine wpList_append_own _ rfl _ _ 22 rfl w.heap.size 46 i0 (.int .u32 0) 1 4 Tryd.underlying22 hi hz0 hz1 hz2 rfl (by decide) _ _ _ rfl (World.ownsRow_made w #[] 0 (Nat.le_refl _) (Nat.zero_le _) rfl) ad 0 cap [] rfl rfl (by intro j u hj; simp at hj) (by intro u hu; cases hu) (by unfold maxLen; omega) (by omega) (by simp) ?_)
  intro v' w1 hown hgrow hnil
  go_wp2
  go_ret
  refine ⟨v', rfl, ?_, ?_⟩
  · refine Rd.of_own (base := w.heap.size) (e := 46) ?_
    simpa [cellsOf] using hown
  · exact ((Below.refl _ w).alloc (Nat.le_refl _) _).grown hgrow (by simp) (by intro k hk; simp [Value.ownBlock] at hk; omega)

theorem clone_nil (cap n : Nat) (f : Nat → Nat) (w : World) :
    Calls Tryd.prog 103 #[.slice none n cap] w fun e w' => ∃ v, e = .returned v ∧ Rd .u32 w' v 0 f ∧ Below w.heap.size w w' := by
  have q22 : ∀ (w : World) (a : Option Addr) (n c n' c' : Nat), (binOp .eql 22 (.slice a n c) (.slice none n' c')).run Tryd.prog w = .ok (.bool a.isNone) w := fun w a n c n' c' => Lib.run_eql_slice_nil w _ _ a n c n' c' Tryd.underlying22
  go_enter Tryd.func103, Tryd.ntmps103
  go_wp2
  go_ret
  exact ⟨_, rfl, Rd.nil _ _ _, Below.refl _ _⟩

/-- slices.Clone: the same elements in memory of its own. -/
theorem clone_any {v : Value} {n : Nat} {f : Nat → Nat} {w : World} (h : Rd .u32 w v n f) (hn : n * 4 ≤ 140737488355328) :
    Calls Tryd.prog 103 #[v] w fun e w' => ∃ v, e = .returned v ∧ Rd .u32 w' v n f ∧ Below w.heap.size w w' := by
  obtain ⟨ao, cap, rfl, hcap, hm, hc⟩ := h
  by_cases h0 : n = 0
  · subst h0
    cases ao with
    | none => exact clone_nil cap 0 f w
    | some ad => exact clone_zero ad cap f w
  · obtain ⟨b, off, rfl, hb, hcl⟩ := hc (by omega)
    exact clone_some b off n cap f w hn hcl

theorem sl_to {b off n cap : Nat} {f : Nat → Nat} {w : World} {k : Nat} (hk : k ≤ n) (hcap : n ≤ cap) (hm : cap ≤ maxLen) (hb : b < w.heap.size) (hc : ∀ j, j < n → w.cell? ⟨b, off + j, none⟩ = some (.int .u32 (f j))) :
    Rd .u32 w (.slice (some ⟨b, off, none⟩) k cap) k f := ⟨_, cap, rfl, by omega, hm, fun _ => ⟨b, off, rfl, hb, fun j hj => hc j (by omega)⟩⟩

/-- without the noughts at its end -/
def trim (f : Nat → Nat) : Nat → Nat
  | 0 => 0
  | n + 1 => if f n = 0 then trim f n else n + 1

theorem trim_le (f : Nat → Nat) (n : Nat) : trim f n ≤ n := by
  induction n with
  | zero => exact Nat.le_refl _
  | succ n ih => simp only [trim]; split <;> omega

theorem trim_norm (f : Nat → Nat) (n : Nat) : Norm (trim f n) f := by
  induction n with
  | zero => intro h; simp [trim] at h
  | succ n ih =>
    simp only [trim]
    split
    · exact ih
    · intro _; simpa using ‹_›

theorem trim_zero (f : Nat → Nat) (n : Nat) : ∀ j, trim f n ≤ j → j < n → f j = 0 := by
  induction n with
  | zero => intro j _ h; omega
  | succ n ih =>
    intro j h1 h2
    simp only [trim] at h1
    split at h1
    · by_cases e : j = n
      · subst e; assumption
      · exact ih j h1 (by omega)
    · omega

theorem trim_nv (f : Nat → Nat) (n : Nat) : nv f (trim f n) = nv f n := (nv_high_zero (trim_le f n) (trim_zero f n)).symm

theorem trim_same (f : Nat → Nat) (n k : Nat) (hk : k ≤ n) (h : ∀ j, k ≤ j → j < n → f j = 0) : trim f n = trim f k := by
  induction n with
  | zero => rw [show k = 0 from by omega]
  | succ n ih =>
    by_cases e : k = n + 1
    · rw [e]
    · simp only [trim]
      rw [if_pos (h n (by omega) (by omega))]
      exact ih (by omega) (fun j h1 h2 => h j h1 (by omega))

set_option maxRecDepth 100000 in
set_option maxHeartbeats 400000 in
theorem make_some (b off n cap : Nat) (f : Nat → Nat) (w : World) (hn : n * 4 ≤ 140737488355328) (hcap : n ≤ cap) (hm : cap ≤ maxLen) (hb : b < w.heap.size) (hc : Hid (∀ j, j < n → w.cell? ⟨b, off + j, none⟩ = some (.int .u32 (f j)))) :
    Calls Tryd.prog 86 #[.slice (some ⟨b, off, none⟩) n cap] w fun e w' => ∃ v, e = .returned v ∧ Rd .u32 w' v (trim f n) f ∧ Below w.heap.size w w' := by
  go_enter Tryd.func86, Tryd.ntmps86
  go_wp2
  go_loop [3] (fun i => ∃ k : Nat, k ≤ n ∧ i = .int .i64 k ∧ Hid (trim f n = trim f k)) (fun i => (intOf i).toNat)
  case atStart => exact ⟨n, Nat.le_refl _, rfl, rfl⟩
  case round =>
    obtain ⟨k, hk, rfl, hz⟩ := hrel
    unfold maxLen at hm
    by_cases h0 : k = 0
    · subst h0
      go_wp2_with (go_at_call 103; refine (clone_any (sl_to (Nat.zero_le n) hcap (by unfold maxLen; omega) hb hc.out) (by omega)).mono ?_; rintro e w' ⟨v, rfl, hv, hbl⟩)
      go_ret
      exact ⟨v, rfl, by rw [hz.out]; exact hv, hbl⟩
    · have hcell := hc.out (k - 1) (by omega)
      by_cases hf : f (k - 1) = 0
      · go_wp2
        go_round
        case rel => exact ⟨k - 1, by omega, by go_num, by unfold Hid; rw [hz.out]; exact trim_same f k (k - 1) (by omega) (fun j h1 h2 => by rw [show j = k - 1 from by omega]; exact hf)⟩
        case measure => simp [intOf]; omega
      · go_wp2_with (go_at_call 103; refine (clone_any (sl_to hk hcap (by unfold maxLen; omega) hb hc.out) (by omega)).mono ?_; rintro e w' ⟨v, rfl, hv, hbl⟩)
        go_ret
        have e : trim f k = k := by
          obtain ⟨m, rfl⟩ : ∃ m, k = m + 1 := ⟨k - 1, by omega⟩
          rw [Nat.add_sub_cancel] at hf
          simp only [trim]
          rw [if_neg hf]
        exact ⟨v, rfl, by rw [hz.out, e]; exact hv, hbl⟩

/-- nat.Make: the row without the noughts at its end. -/
theorem make_any {v : Value} {n : Nat} {f : Nat → Nat} {w : World} (h : Rd .u32 w v n f) (hn : n * 4 ≤ 140737488355328) :
    Calls Tryd.prog 86 #[v] w fun e w' => ∃ v, e = .returned v ∧ Rd .u32 w' v (trim f n) f ∧ Below w.heap.size w w' := by
  obtain ⟨ao, cap, rfl, hcap, hm, hc⟩ := h
  by_cases h0 : n = 0
  · subst h0
    go_enter Tryd.func86, Tryd.ntmps86
    go_wp2
    go_loop [3] (fun i => i = .int .i64 0) (fun i => (intOf i).toNat)
    case atStart => rfl
    case round =>
      subst hrel
      unfold maxLen at hm
      go_wp2_with (go_at_call 103; refine (clone_any (f := f) ⟨ao, cap, rfl, by omega, (by unfold maxLen; omega), fun h => absurd h (by omega)⟩ (by omega)).mono ?_; rintro e w' ⟨v, rfl, hv, hbl⟩)
      go_ret
      exact ⟨v, rfl, hv, hbl⟩
  · obtain ⟨b, off, rfl, hb, hcl⟩ := hc (by omega)
    exact make_some b off n cap f w hn hcap hm hb hcl

/-- nat.Make of limbs: the natural. -/
theorem make_nt {v : Value} {n : Nat} {f : Nat → Nat} {w : World} (h : Rd .u32 w v n f) (hn : n * 4 ≤ 140737488355328) (hf : Fits n f) :
    Calls Tryd.prog 86 #[v] w fun e w' => ∃ v, e = .returned v ∧ Nt w' v (nv f n) ∧ Below w.heap.size w w' :=
  (make_any h hn).mono fun e w' ⟨v, he, hv, hb⟩ => ⟨v, he, ⟨trim f n, f, hv, hf.mono (trim_le f n), trim_norm f n, trim_nv f n⟩, hb⟩
end Go.Proofs.YtopbfgmpilnghaaDoor
