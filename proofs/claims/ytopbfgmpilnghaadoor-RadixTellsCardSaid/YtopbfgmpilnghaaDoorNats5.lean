/- The reference's Nat, over, Step, Byte (layer 5). The reference's over, Step, Byte (layer 5). The reference's Step (layer 5): times a small number, and another one. -/
import Derived.Test.YtopbfgmpilnghaaDoorHeads
import Derived.Laws.AppendOwnNone
set_option linter.unusedVariables false
set_option linter.unusedSimpArgs false
namespace Go.Proofs.YtopbfgmpilnghaaDoor
open Go.RowKit

theorem nt_low {w : World} {v : Value} {n k : Nat} {f : Nat → Nat} (h : Rd .u32 w v k f) (hf : Fits n f) (hk : k ≤ n) (hz : ∀ j, k ≤ j → j < n → f j = 0) (hn : Norm k f) : Nt w v (nv f n) :=
  ⟨k, f, h, hf.mono hk, hn, (nv_high_zero hk hz).symm⟩

set_option maxRecDepth 100000 in
set_option maxHeartbeats 4000000 in
/-- the reference's Nat: the natural of at most so many limbs of a row -/
theorem nat5_row {b off n cap m : Nat} {f : Nat → Nat} {w : World} (hn : m ≤ 35184372088832) (hm : Hid (m ≤ n)) (hmn : Hid (m < n → f m ≠ 0 ∨ True)) (most : Nat) (hmost : m = min n most) (hms : most ≤ 35184372088832) (hcap : n ≤ cap) (hcm : cap ≤ maxLen) (hf : Hid (Fits n f)) (hB : Hid (b < w.heap.size))
    (hc : Hid (∀ j, j < n → w.cell? ⟨b, off + j, none⟩ = some (.int .u32 (f j)))) :
    Calls Tryd.prog 20 #[.slice (some ⟨b, off, none⟩) n cap, .int .i64 (most : Int)] w fun e w' => ∃ v, e = .returned v ∧ Nt w' v (nv f m) ∧ Below w.heap.size w w' := by
  obtain ⟨i0, hi, hz0, hz1, hz2⟩ := info_parts info_u32
  have hmin : Hid (min (n : Int) (most : Int) = (m : Int)) := by unfold Hid; omega
  have hmm := hm.out
  clear hmost hmn
  go_enter Tryd.func20, Tryd.ntmps20
  go_wp2_with fail
  rw [hmin.out]
  go_loop [5] (fun i => ∃ k : Nat, k ≤ m ∧ i = .int .i64 (k : Int) ∧ Hid (∀ j, k ≤ j → j < m → f j = 0)) (fun i => (intOf i).toNat)
  case atStart => exact ⟨m, Nat.le_refl _, rfl, fun j h1 h2 => absurd h2 (by omega)⟩
  case round =>
    obtain ⟨k, hk, rfl, hz⟩ := hrel
    unfold maxLen at hcm
    by_cases h0 : k = 0
    · subst h0
      go_wp2_with (at_builtin; refine wpList_append_own _ rfl _ _ 22 rfl w.heap.size 46 i0 (.int .u32 0) 1 4 Tryd.underlying22 hi hz0 hz1 hz2 rfl (by decide) _ _ _ rfl (World.ownsRow_made w #[] 0 (Nat.le_refl _) (Nat.zero_le _) rfl) ⟨b, off, none⟩ 0 cap [] rfl rfl (by intro j u hj; simp at hj) (by intro u hu; cases hu) (by unfold maxLen; omega) (by omega) (by simp) ?_)
      intro v' w1 hown hgrow hnil
      have HO := Lib.hid hown
      have HG := Lib.hid hgrow
      clear hown hgrow hnil
      go_wp2_with fail
      go_ret
      refine ⟨v', rfl, ?_, ((Below.refl _ w).alloc (Nat.le_refl _) _).grown HG.out (by simp) (by intro k hk; simp [Value.ownBlock] at hk; omega)⟩
      exact nt_low (k := 0) (Rd.of_own (base := w.heap.size) (e := 46) (by simpa [cellsOf] using HO.out)) (hf.out.mono hmm) (Nat.zero_le _) hz.out (fun h => absurd h (by omega))
    · have hcell := hc.out (k - 1) (by omega)
      by_cases hf0 : f (k - 1) = 0
      · go_wp2_with fail
        go_round
        case rel => exact ⟨k - 1, by omega, by go_num, fun j h1 h2 => (by
          by_cases e : j = k - 1
          · rw [e]; exact hf0
          · exact hz.out j (by omega) h2)⟩
        case measure => simp [intOf] <;> omega
      · have hne : ((f (k - 1) : Int) == 0) = false := by simp <;> omega
        have hne2 : (f (k - 1) == 0) = false := by simp <;> omega
        go_wp2_with (at_builtin; refine wpList_append_own _ rfl _ _ 22 rfl w.heap.size 46 i0 (.int .u32 0) 1 4 Tryd.underlying22 hi hz0 hz1 hz2 rfl (by decide) _ _ _ rfl (World.ownsRow_made w #[] 0 (Nat.le_refl _) (Nat.zero_le _) rfl) ⟨b, off, none⟩ k cap (cellsOf .u32 k f) rfl ?qc1 ?qc2 ?qc3 ?qc4 ?qc5 ?qc6 ?_)
        case qc1 => first | (rw [cellsOf_length]; done) | (rw [cellsOf_length]; omega)
        case qc2 =>
          intro j u hj
          have hjn : j < k := by
            have := (List.getElem?_eq_some_iff.1 hj).1
            rw [cellsOf_length] at this
            omega
          try rw [Addr.add_lit]
          refine Lib.cell?_alloc_some _ ?_
          rw [hc.out j (by omega), ← hj, cellsOf_get _ _ _ _ hjn]
        case qc3 => intro u hu; unfold cellsOf at hu; obtain ⟨x, _, rfl⟩ := List.mem_map.1 hu; rfl
        case qc4 => unfold maxLen; omega
        case qc5 => omega
        intro v' w1 hown hgrow hnil
        have HO := Lib.hid hown
        have HG := Lib.hid hgrow
        clear hown hgrow hnil
        go_wp2_with fail
        go_ret
        refine ⟨v', rfl, ?_, ((Below.refl _ w).alloc (Nat.le_refl _) _).grown HG.out (by simp) (by intro k hk; simp [Value.ownBlock] at hk; omega)⟩
        exact nt_low (k := k) (Rd.of_own (base := w.heap.size) (e := 46) (by simpa using HO.out)) (hf.out.mono hmm) hk hz.out (fun _ => hf0)

set_option maxRecDepth 100000 in
set_option maxHeartbeats 2000000 in
theorem nat5_nil {cap : Nat} {w : World} (most : Nat) (hcap : cap = 0) (hms : most ≤ 35184372088832) :
    Calls Tryd.prog 20 #[.slice none 0 cap, .int .i64 (most : Int)] w fun e w' => ∃ v, e = .returned v ∧ Nt w' v 0 ∧ Below w.heap.size w w' := by
  subst hcap
  obtain ⟨i0, hi, hz0, hz1, hz2⟩ := info_parts info_u32
  have hmin : Hid (min ((0 : Nat) : Int) (most : Int) = ((0 : Nat) : Int)) := by unfold Hid; omega
  have hmin2 : Hid (min (0 : Int) (most : Int) = ((0 : Nat) : Int)) := by unfold Hid; omega
  go_enter Tryd.func20, Tryd.ntmps20
  go_wp2_with fail
  first | rw [hmin2.out] | rw [hmin.out] | skip
  go_loop [5] (fun i => i = .int .i64 ((0 : Nat) : Int)) (fun _ => 0)
  case atStart => first | rfl | (exact congrArg (Value.int .i64) hmin2.out)
  case round =>
    subst hrel
    go_wp2_with (at_builtin; refine wpList_append_own_none rfl _ _ 22 rfl w.heap.size 46 i0 1 Tryd.underlying22 hi _ _ _ rfl (World.ownsRow_made w #[] 0 (Nat.le_refl _) (Nat.zero_le _) rfl) rfl ?_)
    go_ret
    exact ⟨_, rfl, Nt.zero _ _ _ (Nat.zero_le _), (Below.refl _ w).alloc (Nat.le_refl _) _⟩
set_option maxRecDepth 100000 in
set_option maxHeartbeats 2000000 in
theorem nat5_empty {ad : Addr} {cap : Nat} {w : World} (most : Nat) (hms : most ≤ 35184372088832) (hm : cap ≤ maxLen) :
    Calls Tryd.prog 20 #[.slice (some ad) 0 cap, .int .i64 (most : Int)] w fun e w' => ∃ v, e = .returned v ∧ Nt w' v 0 ∧ Below w.heap.size w w' := by
  unfold maxLen at hm
  obtain ⟨i0, hi, hz0, hz1, hz2⟩ := info_parts info_u32
  have hmin2 : Hid (min (0 : Int) (most : Int) = ((0 : Nat) : Int)) := by unfold Hid; omega
  go_enter Tryd.func20, Tryd.ntmps20
  go_wp2_with fail
  first | rw [hmin2.out] | skip
  go_loop [5] (fun i => i = .int .i64 ((0 : Nat) : Int)) (fun _ => 0)
  case atStart => first | rfl | (exact congrArg (Value.int .i64) hmin2.out)
  case round =>
    subst hrel
    go_wp2_with (at_builtin; refine wpList_append_own _ rfl _ _ 22 rfl w.heap.size 46 i0 (.int .u32 0) 1 4 Tryd.underlying22 hi hz0 hz1 hz2 rfl (by decide) _ _ _ rfl (World.ownsRow_made w #[] 0 (Nat.le_refl _) (Nat.zero_le _) rfl) ad 0 cap [] rfl rfl (by intro j u hj; simp at hj) (by intro u hu; cases hu) (by unfold maxLen; omega) (by omega) (by simp) ?_)
    intro v' w1 hown hgrow hnil
    have HO := Lib.hid hown
    have HG := Lib.hid hgrow
    clear hown hgrow hnil
    go_wp2_with fail
    go_ret
    refine ⟨v', rfl, ?_, ((Below.refl _ w).alloc (Nat.le_refl _) _).grown HG.out (by simp) (by intro k hk; simp [Value.ownBlock] at hk; omega)⟩
    exact nt_low (n := 0) (f := fun _ => 0) (k := 0) (Rd.of_own (base := w.heap.size) (e := 46) (by simpa [cellsOf] using HO.out)) (fun _ _ => by omega) (Nat.zero_le _) (fun _ _ h => absurd h (by omega)) (fun h => absurd h (by omega))
/-- the reference's Nat -/
theorem nat5_any {v : Value} {n : Nat} {f : Nat → Nat} {w : World} (h : Rd .u32 w v n f) (hnil : ∀ k c, v = .slice none k c → k = 0 ∧ c = 0) (hf : Fits n f) (most : Nat) (hms : most ≤ 35184372088832) (i : Int) (hi : i = (most : Int)) :
    Calls Tryd.prog 20 #[v, .int .i64 i] w fun e w' => ∃ v, e = .returned v ∧ Nt w' v (nv f (min n most)) ∧ Below w.heap.size w w' := by
  subst hi
  obtain ⟨ao, cap, rfl, hcap, hm, hc⟩ := h
  by_cases h0 : n = 0
  · subst h0
    cases ao with
    | none =>
      obtain ⟨-, rfl⟩ := hnil _ _ rfl
      rw [Nat.zero_min]
      exact nat5_nil most rfl hms
    | some ad =>
      rw [Nat.zero_min]
      exact nat5_empty most hms hm
  · obtain ⟨b, off, rfl, hb, hcl⟩ := hc (by omega)
    exact nat5_row (show min n most ≤ 35184372088832 by omega) (show min n most ≤ n from Nat.min_le_left _ _) (fun _ => .inr trivial) most rfl hms hcap hm hf hb hcl
end Go.Proofs.YtopbfgmpilnghaaDoor

namespace Go.Proofs.YtopbfgmpilnghaaDoor
open Go.RowKit

theorem byte_any {d : Nat} (hd : d < 36) (w : World) : Calls Tryd.prog 35 #[.int .i64 (d : Int)] w fun e w' => e = .returned (.int .u8 (dgb d : Int)) ∧ w' = w := by
  unfold dgb
  by_cases h : d < 10
  · rw [if_pos h]
    have h1 : decide (d < 10) = true := decide_eq_true h
    go_enter Tryd.func35, Tryd.ntmps35
    go_wp2_with fail
    go_ret
    exact ⟨congrArg (fun z => Ending.returned (.int .u8 z)) (by omega), rfl⟩
  · rw [if_neg h]
    have h1 : decide (d < 10) = false := decide_eq_false h
    go_enter Tryd.func35, Tryd.ntmps35
    go_wp2_with fail
    go_ret
    exact ⟨congrArg (fun z => Ending.returned (.int .u8 z)) (by omega), rfl⟩

set_option maxRecDepth 100000 in
set_option maxHeartbeats 4000000 in
theorem over_row {b off n cap d : Nat} {f : Nat → Nat} {w : World} (hn : n ≤ 536870912) (h0 : 0 < n) (hd : 2 ≤ d) (hd2 : d ≤ 36) (hf : Hid (Fits n f)) (hB : Hid (b < w.heap.size))
    (hc : Hid (∀ j, j < n → w.cell? ⟨b, off + j, none⟩ = some (.int .u32 (f j)))) :
    Calls Tryd.prog 65 #[.slice (some ⟨b, off, none⟩) n cap, .int .i64 (d : Int)] w fun e w' => ∃ v, e = .returned (.tuple #[v, .int .i64 ((nv f n % d : Nat) : Int)]) ∧ Nt w' v (nv f n / d) ∧ Below w.heap.size w w' := by
  obtain ⟨i0, hi, hz0, hz1, hz2⟩ := info_parts info_u32
  go_enter Tryd.func65, Tryd.ntmps65
  go_wp2_with (at_make; refine wpList_make_row _ rfl _ _ 22 rfl 46 i0 .u32 Tryd.underlying22 hi hz0 hz1 _ _ _ _ n n rfl rfl (by omega) (by omega) (by omega) (by rw [hz2]; omega) (by omega) ?_; intro w1 hown hgrow hsz)
  have hbw : Below w.heap.size w w1 := (Below.refl _ w).grown hgrow (Nat.le_refl _) (fun k e => by cases e)
  have HOWN := Lib.hid hown
  have HBW := Lib.hid hbw
  clear hown hgrow hsz hbw
  go_loopw [7, 8] (fun rs i wr => ∃ (k r : Nat) (F : Nat → Nat), k ≤ n ∧ i = .int .i64 ((k : Int) - 1) ∧ rs = .int .u64 (r : Int) ∧ Hid (Own .u32 wr w.heap.size 46 n F) ∧ Hid (Down d f F n k r) ∧ Hid (Below w.heap.size w wr)) (fun _ i _ => (intOf i + 1).toNat)
  case atStart => exact ⟨n, 0, _, Nat.le_refl _, rfl, rfl, HOWN, Down.start f (by omega), HBW⟩
  case round =>
    obtain ⟨k, r, F, hk, rfl, rfl, hown, hdn, hbw⟩ := hrel
    have hr := hdn.out.rest
    by_cases hk0 : k = 0
    · subst hk0
      have hmk := nat5_any (hown.out.rd (Nat.le_refl n) (Nat.le_refl n) (by unfold maxLen; omega)) (fun _ _ h => by cases h) hdn.out.fits n (by omega) _ rfl
      rw [Nat.min_self] at hmk
      have HMK := Lib.hid hmk
      have hdone := hdn.out.done
      have HDN := Lib.hid hdone
      clear hmk hdone
      go_wp2_with fail
      (with_reducible refine HMK.out.mono ?_)
      rintro e w3 ⟨v, rfl, hv, hb3⟩
      have HV := Lib.hid hv
      have HB := Lib.hid (hbw.out.trans (hb3.mono hbw.out.size))
      clear hv hb3
      go_wp2_with fail
      refine bodyPost_ret (v := .tuple #[v, .int .i64 (r : Int)]) (by simp [results, Tryd.f65]) rfl ?_
      exact ⟨v, by rw [HDN.out.2], by rw [← HDN.out.1]; exact HV.out, HB.out⟩
    · obtain ⟨m, rfl⟩ : ∃ m, k = m + 1 := ⟨k - 1, by omega⟩
      have hm : (((m + 1 : Nat) : Int) - 1) = (m : Int) := by omega
      rw [hm]
      have hcell : wr.cell? ⟨b, off + m, none⟩ = _ := (hbw.out.cell (p := ⟨b, off + m, none⟩) hB.out).trans (hc.out m (by omega))
      have hfm := hf.out m (by omega)
      have hco := hown.out.cell (j := m) (by omega)
      have hfo := hown.out.free m
      have hstep := Lib.hid (hdn.out.step (by omega) hfm (by omega))
      have hX : (r : Int) * 4294967296 + (f m : Int) = ((r * 4294967296 + f m : Nat) : Int) := by omega
      have hXl : r * 4294967296 + f m < 18446744073709551616 := by omega
      have hql : (r * 4294967296 + f m) / d < 4294967296 := by
        rw [Nat.div_lt_iff_lt_mul (by omega)]
        have : (r + 1) * 4294967296 ≤ d * 4294967296 := Nat.mul_le_mul_right _ hr
        rw [Nat.mul_comm 4294967296 d]
        omega
      have e0 := wrap_quo (r * 4294967296 + f m) d hXl
      have hrl : (r * 4294967296 + f m) % d < d := Nat.mod_lt _ (by omega)
      generalize hXX : r * 4294967296 + f m = X at *
      have HXX := Lib.hid hXX
      have E1 : Hid ((X : Int) / (d : Int) % 4294967296 = ((X / d : Nat) : Int)) := by
        unfold Hid
        rw [← Int.natCast_ediv]
        exact Int.emod_eq_of_lt (Int.natCast_nonneg _) (Int.ofNat_lt.2 hql)
      clear hXX
      go_wp2_with fail
      go_roundw
      case rel => exact ⟨m, X % d, upd F m (X / d), by omega, rfl, val_eq (by first | rfl | omega), hown.out.put m (X / d) (by first | rfl | exact E1.out), hstep.out, hbw.out.setCell (Nat.le_refl _) _⟩
      case measure => simp [intOf] <;> omega

/-- a natural over a small number -/
theorem over_nt {v : Value} {a d : Nat} {w : World} (na : Nt w v a) (ha : a ≠ 0) (la : limbs a ≤ 536870912) (hd : 2 ≤ d) (hd2 : d ≤ 36) (i : Int) (hi : i = (d : Int)) :
    Calls Tryd.prog 65 #[v, .int .i64 i] w fun e w' => ∃ v, e = .returned (.tuple #[v, .int .i64 ((a % d : Nat) : Int)]) ∧ Nt w' v (a / d) ∧ Below w.heap.size w w' := by
  subst hi
  have hp := limbs_pos ha
  obtain ⟨aa, ca, fa, rfl, ra, fta, nma, hva⟩ := na.open
  obtain ⟨b, off, rfl, hb, hc⟩ := ra.at hp
  have := over_row (cap := ca) la hp hd hd2 fta hb hc
  rw [hva] at this
  exact this

/-- what holds between two rounds of Step -/
structure Stepping (f F : Nat → Nat) (m more k c : Nat) : Prop where
  fits : Fits k F
  carry : c < 4294967296
  sum : nv F k + c * 4294967296 ^ k = nv f k * m + more
theorem Stepping.start (f : Nat → Nat) {m more : Nat} (h : more < 4294967296) : Stepping f (fun _ => 0) m more 0 more := ⟨fun _ h => absurd h (by omega), h, by simp [nv]⟩
theorem Stepping.step {f F : Nat → Nat} {m more k c : Nat} (h : Stepping f F m more k c) (hf : f k < 4294967296) (hm : m ≤ 36) :
    Stepping f (upd F k ((f k * m + c) % 4294967296)) m more (k + 1) ((f k * m + c) / 4294967296) := by
  obtain ⟨h1, h2, h3⟩ := h
  have hb : f k * m ≤ 4294967295 * 36 := Nat.mul_le_mul (by omega) hm
  refine ⟨fun j hj => ?_, by omega, ?_⟩
  · by_cases e : j = k
    · subst e; rw [upd_same]; omega
    · rw [upd_other _ _ e]; exact h1 j (by omega)
  · have e1 : nv (upd F k ((f k * m + c) % 4294967296)) k = nv F k := nv_congr (fun j hj => upd_other _ _ (by omega))
    simp only [nv, upd_same, e1, Nat.pow_succ]
    rw [Nat.add_mul]
    have e2 : f k * 4294967296 ^ k * m = f k * m * 4294967296 ^ k := by rw [Nat.mul_right_comm]
    rw [e2]
    generalize f k * m = p at *
    generalize 4294967296 ^ k = P at *
    have hk := Nat.mod_add_div (p + c) 4294967296
    generalize (p + c) % 4294967296 = z at *
    generalize (p + c) / 4294967296 = t at *
    have hm2 := congrArg (· * P) hk
    simp only [Nat.add_mul, Nat.mul_assoc] at hm2
    have e5 : t * (P * 4294967296) = 4294967296 * (t * P) := by rw [← Nat.mul_assoc, Nat.mul_comm]
    rw [e5]
    generalize nv f k * m = y at *
    omega
theorem Stepping.done {f F : Nat → Nat} {m more k c : Nat} (h : Stepping f F m more k c) : Fits (k + 1) (upd F k c) ∧ nv (upd F k c) (k + 1) = nv f k * m + more := by
  obtain ⟨h1, h2, h3⟩ := h
  refine ⟨fun j hj => ?_, ?_⟩
  · by_cases e : j = k
    · subst e; rw [upd_same]; exact h2
    · rw [upd_other _ _ e]; exact h1 j (by omega)
  · have e1 : nv (upd F k c) k = nv F k := nv_congr (fun j hj => upd_other _ _ (by omega))
    simp only [nv, upd_same, e1]
    exact h3
end Go.Proofs.YtopbfgmpilnghaaDoor

namespace Go.Proofs.YtopbfgmpilnghaaDoor
open Go.RowKit

def isU32 : Value → Bool
  | .int .u32 _ => true
  | _ => false

/-- a row of limbs of the call's own -/
theorem rowp_rd {B : Nat} {e : TypeId} {W : World} {v : Value} {n : Nat} {F : Nat → Nat} (h : RowP isU32 B e W v (cellsOf .u32 n F)) : Rd .u32 W v n F := by
  rcases h with ⟨rfl, he⟩ | ⟨g, cap, cur, rfl, hb, hg, hn, hm, hs, ht, ha⟩
  · have hn : n = 0 := by have := congrArg List.length he; rw [cellsOf_length] at this; simpa using this
    subst hn
    exact Rd.nil _ _ _
  · rw [cellsOf_length] at *
    refine ⟨_, cap, rfl, hn, hm, fun _ => ⟨g, 0, rfl, (Array.getElem?_eq_some_iff.1 hg).1, fun j hj => ?_⟩⟩
    have hq := cellsOf_get .u32 n F j hj
    rw [← ht, List.getElem?_take, if_pos hj] at hq
    simp only [World.cell?, hg, Nat.zero_add]
    simpa using hq

set_option maxRecDepth 100000 in
set_option maxHeartbeats 4000000 in
theorem step_row {ao : Option Addr} {n cap m more : Nat} {f : Nat → Nat} {w : World} (hn : n ≤ 1000000) (hm : m ≤ 36) (hmore : more < 4294967296) (hf : Hid (Fits n f))
    (hc : Hid (∀ j, j < n → ∃ b off, ao = some ⟨b, off, none⟩ ∧ b < w.heap.size ∧ w.cell? ⟨b, off + j, none⟩ = some (.int .u32 (f j)))) :
    Calls Tryd.prog 36 #[.slice ao n cap, .int .i64 (m : Int), .int .i64 (more : Int)] w fun e w' => ∃ v, e = .returned v ∧ Nt w' v (nv f n * m + more) ∧ Below w.heap.size w w' := by
  obtain ⟨i0, hi, hz0, hz1, hz2⟩ := info_parts info_u32
  go_enter Tryd.func36, Tryd.ntmps36
  go_wp2_with fail
  have HR0 : Hid (RowP isU32 w.heap.size 46 (w.alloc (.cells #[] 46)) (.slice (some ⟨w.heap.size, 0, none⟩) 0 0) (cellsOf .u32 0 (fun _ => 0))) :=
    .inr ⟨w.heap.size, 0, #[], rfl, Nat.le_refl _, heap_alloc_new w _, Nat.zero_le _, Nat.zero_le _, rfl, rfl, fun x hx => by cases hx⟩
  have HT0 := Lib.hid (After.alloc (After.refl w) (.cells #[] 46))
  generalize w.alloc _ = w1 at *
  go_loopw [7, 8, 9] (fun ov c i wr => ∃ (out : Value) (k cc : Nat) (F : Nat → Nat), out = ov ∧ k ≤ n ∧ i = .int .i64 (k : Int) ∧ c = .int .u64 (cc : Int) ∧ Hid (RowP isU32 w.heap.size 46 wr out (cellsOf .u32 k F)) ∧ Hid (Stepping f F m more k cc) ∧ Hid (After w wr)) (fun _ _ i _ => n - (intOf i).toNat)
  case atStart => exact ⟨_, 0, more, _, rfl, by omega, rfl, rfl, HR0, Stepping.start f hmore, HT0⟩
  case round =>
    clear HR0 HT0
    obtain ⟨out, k, cc, F, rfl, hk, rfl, rfl, hrow, hst, T⟩ := hrel
    have hcc := hst.out.carry
    have hws := T.out.out.size
    by_cases hlt : k < n
    · obtain ⟨b, off, rfl, hbl, hcell⟩ := hc.out k hlt
      replace hcell := (T.out.out.cell (p := ⟨b, off + k, none⟩) hbl).trans hcell
      have hfk := hf.out k hlt
      have hstep := Lib.hid (hst.out.step hfk hm)
      have hP : ((f k : Int) * (m : Int)) = ((f k * m : Nat) : Int) := (Int.natCast_mul (f k) m).symm
      have hpb : f k * m ≤ 4294967295 * 36 := Nat.mul_le_mul (by omega) hm
      generalize f k * m = p at *
      have hz : ((p : Int) + (cc : Int)) % 4294967296 = (((p + cc) % 4294967296 : Nat) : Int) := by omega
      have hq : ((p : Int) + (cc : Int)) / 4294967296 = (((p + cc) / 4294967296 : Nat) : Int) := by omega
      have hzl : (p + cc) % 4294967296 < 4294967296 := Nat.mod_lt _ (by omega)
      have hql : (p + cc) / 4294967296 < 4294967296 := by omega
      generalize (p + cc) % 4294967296 = z at *
      generalize (p + cc) / 4294967296 = t at *
      have hlr : (cellsOf .u32 k F).length = k := cellsOf_length _ _ _
      have HLR := Lib.hid hlr
      clear hlr
      go_wp2_with (at_builtin; refine wpList_append_p _ rfl _ _ 22 rfl isU32 w.heap.size 46 i0 (.int .u32 0) 4 Tryd.underlying22 hi hz0 hz1 hz2 rfl rfl out (cellsOf .u32 k F) rfl ((hrow.out.same (fun g hg => heap_alloc_old _ _ (hrow.out.lt hg).1))) ⟨wr.heap.size, 0, none⟩ 1 1 [.int .u32 (z : Int)] rfl rfl ?c2 ?c3 ?c4 ?c5 ?c6 ?c7 ?c8 ?_)
      case c2 => exact cell_one_new _ _ _
      case c3 => simp [Value.oneCell']
      case c4 => simp [isU32]
      case c5 => omega
      case c6 => rw [HLR.out]; unfold maxLen; omega
      case c7 => rw [HLR.out]; omega
      case c8 => simp; omega
      intro v' w2 hr2 hg2
      have e : cellsOf .u32 k F ++ [.int .u32 (z : Int)] = cellsOf .u32 (k + 1) (upd F k z) := by
        rw [cellsOf_snoc, upd_same, cellsOf_congr .u32 k F (upd F k z) (fun j hj => (upd_other _ _ (by omega)).symm)]
      rw [e] at hr2
      have HR2 := Lib.hid hr2
      have T2 : Hid (After w w2) := Below.grown (After.alloc T.out _).out hg2 (by simp; omega) (fun j ej => (hrow.out.lt ej).2)
      clear hr2 hg2 e hrow T
      go_wp2_with fail
      go_roundw
      case rel => exact ⟨_, k + 1, t, upd F k z, rfl, by omega, by go_num, rfl, HR2, hstep, T2⟩
      case measure => simp [intOf] <;> omega
    · obtain rfl : k = n := by omega
      have hdone := Lib.hid hst.out.done
      have hlr : (cellsOf .u32 k F).length = k := cellsOf_length _ _ _
      have HLR := Lib.hid hlr
      clear hlr
      go_wp2_with (at_builtin; refine wpList_append_p _ rfl _ _ 22 rfl isU32 w.heap.size 46 i0 (.int .u32 0) 4 Tryd.underlying22 hi hz0 hz1 hz2 rfl rfl out (cellsOf .u32 k F) rfl ((hrow.out.same (fun g hg => heap_alloc_old _ _ (hrow.out.lt hg).1))) ⟨wr.heap.size, 0, none⟩ 1 1 [.int .u32 (cc : Int)] rfl rfl ?d2 ?d3 ?d4 ?d5 ?d6 ?d7 ?d8 ?_)
      case d2 => exact cell_one_new _ _ _
      case d3 => simp [Value.oneCell']
      case d4 => simp [isU32]
      case d5 => omega
      case d6 => rw [HLR.out]; unfold maxLen; omega
      case d7 => rw [HLR.out]; omega
      case d8 => simp; omega
      intro v' w2 hr2 hg2
      have e : cellsOf .u32 k F ++ [.int .u32 (cc : Int)] = cellsOf .u32 (k + 1) (upd F k cc) := by
        rw [cellsOf_snoc, upd_same, cellsOf_congr .u32 k F (upd F k cc) (fun j hj => (upd_other _ _ (by omega)).symm)]
      rw [e] at hr2
      have hrd := rowp_rd hr2
      have hnn : ∃ g cap, v' = .slice (some ⟨g, 0, none⟩) (k + 1) cap := by
        rcases hr2 with ⟨_, he⟩ | ⟨g, cap, cur, rfl, _⟩
        · have := congrArg List.length he; rw [cellsOf_length] at this; simp at this
        · exact ⟨g, cap, by rw [cellsOf_length]⟩
      obtain ⟨g2, c2, rfl⟩ := hnn
      have T2 : Hid (After w w2) := Below.grown (After.alloc T.out _).out hg2 (by simp; omega) (fun j ej => (hrow.out.lt ej).2)
      have hmk := nat5_any hrd (fun _ _ h => by cases h) hdone.out.1 (k + 1) (by omega) ((k : Int) + 1) (by omega)
      rw [Nat.min_self, hdone.out.2] at hmk
      have HMK := Lib.hid hmk
      clear hr2 hg2 e hrow T hrd hmk
      go_wp2_with fail
      (with_reducible refine HMK.out.mono ?_)
      rintro e w3 ⟨v, rfl, hv, hb3⟩
      have HV := Lib.hid hv
      have T3 := Lib.hid (After.t T2.out hb3)
      clear hv hb3
      go_wp2_with fail
      go_ret
      exact ⟨v, rfl, HV.out, T3.out⟩

/-- the reference's Step -/
theorem step_nt {v : Value} {a m more : Nat} {w : World} (na : Nt w v a) (la : limbs a ≤ 1000000) (hm : m ≤ 36) (hmore : more < 4294967296) (i j : Int) (hi : i = (m : Int)) (hj : j = (more : Int)) :
    Calls Tryd.prog 36 #[v, .int .i64 i, .int .i64 j] w fun e w' => ∃ v, e = .returned v ∧ Nt w' v (a * m + more) ∧ Below w.heap.size w w' := by
  subst hi hj
  obtain ⟨aa, ca, fa, rfl, ra, fta, nma, hva⟩ := na.open
  have := step_row (cap := ca) (m := m) (more := more) (w := w) la hm hmore fta (fun j hj => (by
    obtain ⟨b, off, e, hb, hc⟩ := ra.at (by omega)
    exact ⟨b, off, e, hb, hc j hj⟩))
  rw [hva] at this
  exact this
end Go.Proofs.YtopbfgmpilnghaaDoor
