/- radix.write: the digits of a natural behind others. radix.write at all depths. radix.Text: the digits of a natural. -/
import Derived.Test.YtopbfgmpilnghaaDoorStrips
import Derived.Laws.IdiomStrings
set_option linter.unusedVariables false
set_option linter.unusedSimpArgs false
namespace Go.Proofs.YtopbfgmpilnghaaDoor
open Go.RowKit

set_option maxRecDepth 100000 in
set_option maxHeartbeats 8000000 in
/-- a power that the table has -/
theorem power_have {base B P k n g cap : Nat} {vs : List Value} {w : World} (ht : Hid (Tab base B P w n g cap vs)) (hk : k < n) (hn : n ≤ 1000000) (i : Int) (hi : i = (k : Int)) :
    Calls Tryd.prog 84 #[.int .i64 i, .pointer (some ⟨P, 0, none⟩)] w fun e w' => ∃ v, e = .returned v ∧ Nt w v (pw base k) ∧ w = w' := by
  subst hi
  have c0 := Blk.cell (cs := #[_]) ht.out.box rfl
  obtain ⟨v, hv, nv⟩ := ht.out.val hk
  obtain ⟨av, cv, fv, rfl, -⟩ := nv.open
  have hc1 := ht.out.row.cell hv
  have HNV := Lib.hid nv
  clear nv hv
  generalize hlv : limbs (pw base k) = lv at *
  have HLV := Lib.hid hlv
  clear hlv
  go_enter Tryd.func84, Tryd.ntmps84
  go_wp2_with fail
  go_loop [4] (fun _ => True) (fun _ => 0)
  case atStart => trivial
  case round =>
    go_wp2_with fail
    go_ret
    exact ⟨_, rfl, HNV.out, rfl⟩

theorem info_u8 : (Tryd.prog.info? 5).map (fun i => (i.zero, i.size, i.bytes)) = some (some (.int .u8 0), 1, 1) := by kernel_rfl

def bytesV (l : List Nat) : List Value := l.map fun c : Nat => Value.int .u8 (c : Int)

theorem bytesV_len (l : List Nat) : (bytesV l).length = l.length := by simp [bytesV]
theorem bytesV_one (l : List Nat) : ∀ u ∈ bytesV l, u.oneCell' = true := by
  intro u hu
  unfold bytesV at hu
  obtain ⟨x, _, rfl⟩ := List.mem_map.1 hu
  rfl
theorem bytesV_u8 (l : List Nat) : ∀ u ∈ bytesV l, isU8 u = true := by
  intro u hu
  unfold bytesV at hu
  obtain ⟨x, _, rfl⟩ := List.mem_map.1 hu
  rfl
theorem news_at {W : World} {b k : Nat} {e : TypeId} {F : Nat → Nat} {l : List Nat} (hown : Own .u8 W b e 5 F) (hlist : ∀ i, i < 5 → l[i]? = some (F i)) (hlen : l.length = 5) :
    ∀ j u, (bytesV (l.drop k))[j]? = some u → W.cell? ((⟨b, k, none⟩ : Addr).add j) = some u := by
  intro j u hu
  simp only [bytesV, List.getElem?_map, List.getElem?_drop, Option.map_eq_some_iff] at hu
  obtain ⟨x, hx, rfl⟩ := hu
  have hlt : k + j < 5 := by
    have := (List.getElem?_eq_some_iff.1 hx).1
    omega
  rw [hlist _ hlt] at hx
  cases hx
  rw [Addr.add_lit]
  exact hown.cell hlt

set_option maxRecDepth 100000 in
theorem slice5 {b k : Nat} (hk : k < 5) (w : World) : (Instr.sliceAt 103 (.pointer (some ⟨b, 0, none⟩)) (some (.int .i64 (k : Int))) none none).run Tryd.prog w = .ok (.slice (some ⟨b, k, none⟩) (5 - k) (5 - k)) w := by
  obtain rfl | rfl | rfl | rfl | rfl : k = 0 ∨ k = 1 ∨ k = 2 ∨ k = 3 ∨ k = 4 := by omega
  all_goals go_simp

def signs : ByteArray := ⟨#[48, 49, 50, 51, 52, 53, 54, 55, 56, 57, 97, 98, 99, 100, 101, 102, 103, 104, 105, 106, 107, 108, 109, 110, 111, 112, 113, 114, 115, 116, 117, 118, 119, 120, 121, 122]⟩
theorem sign_at {d : Nat} (h : d < signs.size) : (signs[d]'h).toNat = dgb d := by
  have hd : d < 36 := h
  have : ∀ k : Fin 36, (signs[k.val]'(show k.val < 36 from k.isLt)).toNat = dgb k.val := by decide
  exact this ⟨d, hd⟩
theorem wrap_quo (q b : Nat) (hq : q < 18446744073709551616) : IntKind.u64.wrap ((q : Int) / (b : Int)) = ((q / b : Nat) : Int) := by
  rw [← Int.natCast_ediv]
  have := Nat.div_le_self q b
  generalize q / b = x at *
  simp [IntKind.wrap, IntKind.bits, IntKind.signed]
  omega

set_option maxRecDepth 100000 in
set_option maxHeartbeats 8000000 in
theorem write_low {base B P a : Nat} {v0 va : Value} {xs : List Value} {first : Bool} {w : World} (hb : 2 ≤ base) (hb2 : base ≤ 36) (hx : Hid (RowP isU8 B 5 w v0 xs)) (na : Nt w va a) (ha : a < base ^ 5) (hB : Hid (B ≤ w.heap.size)) (hxs : Hid (xs.length ≤ 1000000)) :
    Calls Tryd.prog 63 #[v0, va, .int .i64 (base : Int), .int .i64 (-1), .func (.func 84) #[] #[.pointer (some ⟨P, 0, none⟩)], .bool first] w fun e w' =>
      ∃ v, e = .returned v ∧ RowP isU8 B 5 w' v (xs ++ bytesV (if first then bare (pad base 5 a) else pad base 5 a)) ∧ KeptP isU8 B w w' := by
  have h36 : base ^ 5 ≤ 36 ^ 5 := Nat.pow_le_pow_left hb2 5
  have hal : a < 60466176 := by omega
  clear h36
  go_enter Tryd.func63, Tryd.ntmps63
  go_wp2_with fail
  (with_reducible refine (low_any na (by omega)).mono ?_)
  rintro e w1 ⟨rfl, hd1⟩
  have hx1 := Lib.hid (hx.out.after hd1.below)
  have hB1 : Hid (B ≤ w1.heap.size) := by have := hB.out; have e := hd1.heap; unfold Hid; rw [e]; exact this
  have T1 := Lib.hid (KeptP.after (p := isU8) (B := B) hd1.below hB.out)
  clear na hd1 hx hB
  go_wp2_with fail
  have hown0 : Own .u8 (w1.alloc (.cells #[.int .u8 0, .int .u8 0, .int .u8 0, .int .u8 0, .int .u8 0] 103)) w1.heap.size 103 5 (fun _ => 0) := by
    refine ⟨_, heap_alloc_new w1 _, rfl, fun j hj => ?_⟩
    rcases j with _ | _ | _ | _ | _ | j
    all_goals first | rfl | omega
  have HOWN := Lib.hid hown0
  have HT := Lib.hid (After.alloc (After.refl w1) (.cells #[.int .u8 0, .int .u8 0, .int .u8 0, .int .u8 0, .int .u8 0] 103))
  clear hown0
  generalize w1.alloc _ = w2 at *
  obtain ⟨b, hbz⟩ : ∃ b, w1.heap.size = b := ⟨_, rfl⟩
  rw [hbz] at HOWN ⊢
  have HBZ := Lib.hid hbz
  clear hbz
  go_loopw [13, 16] (fun nn i wr => ∃ (j : Nat) (F : Nat → Nat), j ≤ 5 ∧ i = .int .i64 (4 - (j : Int)) ∧ nn = .int .u64 ((a / base ^ j : Nat) : Int) ∧ Hid (Own .u8 wr b 103 5 F) ∧ Hid (∀ t, t < j → F (4 - t) = dgb (a / base ^ t % base)) ∧ Hid (After w1 wr)) (fun _ i _ => (intOf i + 1).toNat)
  case atStart => exact ⟨0, _, by omega, by first | rfl | go_num, by simp, HOWN, fun t ht => absurd ht (by omega), HT⟩
  case round =>
    clear HOWN HT
    obtain ⟨j, F, hj, rfl, rfl, hown, hF, T⟩ := hrel
    by_cases hlt : j < 5
    · obtain ⟨t, ht⟩ : ∃ t, 4 - j = t := ⟨_, rfl⟩
      have hi1 : (4 : Int) - (j : Int) = (t : Int) := by omega
      rw [hi1]
      have hc := hown.out.cell (j := t) (by omega)
      have hf := hown.out.free t
      have hq : a / base ^ j ≤ a := Nat.div_le_self _ _
      have hm : a / base ^ j % base < 36 := by have := Nat.mod_lt (a / base ^ j) (show 0 < base by omega); omega
      have hq2 : a / base ^ j / base = a / base ^ (j + 1) := by rw [Nat.div_div_eq_div_mul, ← Nat.pow_succ]
      have HQ2 := Lib.hid hq2
      have HQJ : Hid (∀ t, t = j → a / base ^ t = a / base ^ j) := fun t e => by rw [e]
      clear hq2 hi1
      generalize a / base ^ j = q at *
      have e0 := wrap_quo q base (by omega)
      go_wp2_with fail
      go_roundw
      case rel =>
        refine ⟨j + 1, upd F t (dgb (q % base)), by omega, val_eq (by omega), val_eq (by rw [← HQ2.out]; first | rfl | exact (Int.natCast_ediv q base).symm), ?_, fun s hs => ?_, Below.setCell T.out.out (Nat.le_of_eq HBZ.out) _⟩
        · have := hown.out.put t (dgb (q % base)) (v := _) (congrArg Int.ofNat (sign_at (d := q % base) (show q % base < 36 from hm)))
          exact this
        · by_cases e : s = j
          · subst e
            rw [show 4 - s = t by omega, upd_same, HQJ.out s rfl]
          · rw [upd_other _ _ (by omega)]
            exact hF.out s (by omega)
      case measure => simp [intOf] <;> omega
    · obtain rfl : j = 5 := by omega
      have hlist : Hid (∀ i, i < 5 → (pad base 5 a)[i]? = some (F i)) := fun i hi => by
        rw [pad_get base 5 a i hi]
        have := hF.out (4 - i) (by omega)
        rw [show 4 - (4 - i) = i by omega] at this
        rw [this]
      have hFb : Hid (∀ i, i < 5 → F i < 256 ∧ 48 ≤ F i) := fun i hi => by
        have := hF.out (4 - i) (by omega)
        rw [show 4 - (4 - i) = i by omega] at this
        rw [this]
        exact dgb_lt (by have := Nat.mod_lt (a / base ^ (4 - i)) (show 0 < base by omega); omega)
      have hlen := pad_len base 5 a
      have hbare := Lib.hid (bare_drop (pad base 5 a))
      have hls := Lib.hid (lead_spec (pad base 5 a))
      clear hF
      obtain ⟨l, hl⟩ : ∃ l, pad base 5 a = l := ⟨_, rfl⟩
      rw [hl] at hlist hlen hbare hls
      have HL := Lib.hid hl
      clear hl
      generalize a / base ^ 5 = q5
      have HLEN := Lib.hid hlen
      clear hlen
      have hx3 := Lib.hid (hx1.out.after T.out.out)
      have hB3 : Hid (B ≤ wr.heap.size) := by have := hB1.out; have := T.out.out.size; unfold Hid; omega
      have T3 := Lib.hid (T1.out.trans (KeptP.after T.out.out hB1.out))
      clear hx1 hB1 T1 T
      have hfive : (4 : Int) - ((5 : Nat) : Int) = -1 := rfl
      rw [hfive]
      obtain ⟨i0, hi, hz0, hz1, hz2⟩ := info_parts info_u8
      cases first with
      | false =>
        go_wp2_with fail
        go_loop [17] (fun i => i = .int .i64 0) (fun _ => 0)
        case atStart => rfl
        case round =>
          subst hrel
          go_wp2_with (at_builtin; refine wpList_append_p _ rfl _ _ 49 rfl isU8 B 5 i0 (.int .u8 0) 1 Tryd.underlying49 hi hz0 hz1 hz2 rfl rfl v0 xs rfl hx3.out ⟨b, 0, none⟩ 5 5 (bytesV (l.drop 0)) rfl ?c1 ?c2 ?c3 ?c4 ?c5 ?c6 ?c7 ?c8 ?_)
          case c1 => simpa [bytesV_len] using HLEN.out
          case c2 => have := news_at (k := 0) hown.out hlist.out HLEN.out; simpa [Addr.add_lit] using this
          case c3 => exact bytesV_one _
          case c4 => exact bytesV_u8 _
          case c6 => have := hxs.out; unfold maxLen; omega
          case c7 => have := hxs.out; omega
          case c8 => exact hB3.out
          intro v' w' hr' hg'
          have HR := Lib.hid hr'
          have HK := Lib.hid (T3.out.trans (KeptP.grown hx3.out hg' hB3.out))
          clear hr' hg'
          go_wp2_with fail
          go_ret
          exact ⟨_, rfl, by rw [HL.out]; simpa using HR.out, HK.out⟩
      | true =>
        go_wp2_with fail
        go_loopw [17] (fun i wr2 => ∃ k : Nat, k ≤ lead l ∧ i = .int .i64 (k : Int) ∧ wr2 = wr) (fun i _ => 4 - (intOf i).toNat)
        case atStart => exact ⟨0, by omega, rfl, rfl⟩
        case round =>
          obtain ⟨k, hk, rfl, rfl⟩ := hrel
          by_cases hlt : k < lead l
          · obtain ⟨h1, h2⟩ := hls.out.1 k hlt
            have h3 := hlist.out k (by have := HLEN.out; omega)
            have h4 : F k = 48 := by rw [h3] at h1; exact Option.some.inj h1
            have hk4 : k < 4 := by have := HLEN.out; omega
            have hc := hown.out.cell (j := k) (by omega)
            rw [h4] at hc
            clear h1 h2 h3 h4
            go_wp2_with fail
            go_roundw
            case rel => exact ⟨k + 1, by omega, by go_num, by first | rfl | trivial⟩
            case measure => simp [intOf]; omega
          · obtain ⟨q, hq⟩ : ∃ q, k = q := ⟨_, rfl⟩
            have hkl : k = lead l := by omega
            have hk5 : k ≤ 4 := by
              apply Classical.byContradiction
              intro h
              have h1 := (hls.out.1 (k - 1) (by omega)).2
              have := HLEN.out
              omega
            have hne : Hid (k < 4 → F k ≠ 48) := fun h4 e => by
              have h1 := hls.out.2 (by have := HLEN.out; omega)
              rw [← hkl, hlist.out k (by omega), e] at h1
              exact h1 rfl
            have HKL := Lib.hid hkl
            clear hkl hk hlt hq
            by_cases h4 : k < 4
            · have hF48 : ((F k : Int) == 48) = false := by have := hne.out h4; simp; omega
              have hF48' : (F k == 48) = false := by have := hne.out h4; simp; omega
              have hc := hown.out.cell (j := k) (by omega)
              have hsl := slice5 (b := b) (k := k) (by omega)
              go_wp2_with (at_builtin; refine wpList_append_p _ rfl _ _ 49 rfl isU8 B 5 i0 (.int .u8 0) 1 Tryd.underlying49 hi hz0 hz1 hz2 rfl rfl v0 xs rfl hx3.out ⟨b, k, none⟩ (5 - k) (5 - k) (bytesV (l.drop k)) rfl ?d1 ?d2 ?d3 ?d4 ?d5 ?d6 ?d7 ?d8 ?_)
              case d1 => have := HLEN.out; simp [bytesV_len]; omega
              case d2 => exact news_at (k := k) hown.out hlist.out HLEN.out
              case d3 => exact bytesV_one _
              case d4 => exact bytesV_u8 _
              case d5 => omega
              case d6 => have := hxs.out; unfold maxLen; omega
              case d7 => have := hxs.out; omega
              case d8 => exact hB3.out
              intro v' w' hr' hg'
              have HR := Lib.hid hr'
              have HK := Lib.hid (T3.out.trans (KeptP.grown hx3.out hg' hB3.out))
              clear hr' hg'
              go_wp2_with fail
              go_ret
              exact ⟨_, rfl, by have e := hbare.out; rw [← HKL.out] at e; rw [HL.out]; simp [e]; exact HR.out, HK.out⟩
            · obtain rfl : k = 4 := by omega
              go_wp2_with (at_builtin; refine wpList_append_p _ rfl _ _ 49 rfl isU8 B 5 i0 (.int .u8 0) 1 Tryd.underlying49 hi hz0 hz1 hz2 rfl rfl v0 xs rfl hx3.out ⟨b, 4, none⟩ 1 1 (bytesV (l.drop 4)) rfl ?e1 ?e2 ?e3 ?e4 ?e5 ?e6 ?e7 ?e8 ?_)
              case e1 => have := HLEN.out; simp [bytesV_len]; omega
              case e2 => exact news_at (k := 4) hown.out hlist.out HLEN.out
              case e3 => exact bytesV_one _
              case e4 => exact bytesV_u8 _
              case e5 => omega
              case e6 => have := hxs.out; unfold maxLen; omega
              case e7 => have := hxs.out; omega
              case e8 => exact hB3.out
              intro v' w' hr' hg'
              have HR := Lib.hid hr'
              have HK := Lib.hid (T3.out.trans (KeptP.grown hx3.out hg' hB3.out))
              clear hr' hg'
              go_wp2_with fail
              go_ret
              exact ⟨_, rfl, by have e := hbare.out; rw [← HKL.out] at e; rw [HL.out]; simp [e]; exact HR.out, HK.out⟩
end Go.Proofs.YtopbfgmpilnghaaDoor

namespace Go.Proofs.YtopbfgmpilnghaaDoor
open Go.RowKit

/-- what is written of a -/
def wr1 (base m a : Nat) (first : Bool) : List Nat := if first then bare (pad base m a) else pad base m a
theorem wr1_len (base m a : Nat) (first : Bool) : (wr1 base m a first).length ≤ m := by
  unfold wr1
  split
  · rw [bare_drop, List.length_drop, pad_len]; omega
  · rw [pad_len]; omega
theorem bytesV_app (l r : List Nat) : bytesV (l ++ r) = bytesV l ++ bytesV r := by simp [bytesV]

theorem wr1_both {base m a : Nat} {first : Bool} (hb : 2 ≤ base) (hb2 : base ≤ 36) (ha : a < base ^ (m + m)) (h : first = false ∨ a / base ^ m ≠ 0) :
    wr1 base (m + m) a first = wr1 base m (a / base ^ m) first ++ wr1 base m (a % base ^ m) false := by
  unfold wr1
  cases first with
  | false => simp [pad_add]
  | true =>
    rcases h with h | h
    · cases h
    · simp only [if_true]
      rw [bare_pad_high hb hb2 ha h]
      rfl
theorem wr1_low {base m a : Nat} (hm : 0 < m) (h : a / base ^ m = 0) (hb : 2 ≤ base) : wr1 base (m + m) a true = wr1 base m (a % base ^ m) true := by
  have hlt : a < base ^ m := by
    rcases Nat.lt_or_ge a (base ^ m) with h1 | h1
    · exact h1
    · have := Nat.div_pos h1 (Nat.pow_pos (by omega)); omega
  unfold wr1
  simp only [if_true]
  rw [bare_pad_low hlt hm, Nat.mod_eq_of_lt hlt]

set_option maxRecDepth 100000 in
set_option maxHeartbeats 8000000 in
theorem write_any {base B P n g cap : Nat} {vs : List Value} (hb : 2 ≤ base) (hb2 : base ≤ 36) (hn : n ≤ 1000000) (K : Nat) : ∀ (w : World) (v0 va : Value) (a : Nat) (xs : List Value) (first : Bool) (kk : Int), kk = (K : Int) - 1 → K ≤ n →
    Tab base B P w n g cap vs → RowP isU8 B 5 w v0 xs → Nt w va a → a < pw base K → limbs (pw base K) ≤ 100000000 → xs.length + 5 * 2 ^ K ≤ 1000000 →
    Calls Tryd.prog 63 #[v0, va, .int .i64 (base : Int), .int .i64 kk, .func (.func 84) #[] #[.pointer (some ⟨P, 0, none⟩)], .bool first] w fun e w' =>
      ∃ v, e = .returned v ∧ RowP isU8 B 5 w' v (xs ++ bytesV (wr1 base (5 * 2 ^ K) a first)) ∧ KeptP isU8 B w w' := by
  induction K with
  | zero =>
    intro w v0 va a xs first kk hkk hK ht hx na ha hl hlen
    subst hkk
    exact write_low hb hb2 hx na ha ht.bound (show xs.length ≤ 1000000 by omega)
  | succ K ih =>
    intro w v0 va a xs first kk hkk hK ht hx na ha hl hlen
    have hkk' : kk = (K : Int) := by omega
    subst hkk'
    clear hkk
    obtain ⟨m, hm⟩ : ∃ m, 5 * 2 ^ K = m := ⟨_, rfl⟩
    have hmm : 5 * 2 ^ (K + 1) = m + m := by rw [Nat.pow_succ]; omega
    have hm0 : 0 < m := by have : 0 < 2 ^ K := Nat.pow_pos (by omega); omega
    have hpk : pw base K = base ^ m := by unfold pw; rw [hm]
    have hpk1 : pw base (K + 1) = base ^ (m + m) := by unfold pw; rw [hmm]
    have hpp := pw_succ base K
    rw [hmm] at hlen ⊢
    have hp0 : pw base K ≠ 0 := by rw [hpk]; exact Nat.ne_of_gt (Nat.pow_pos (by omega))
    have hhi : a / pw base K < pw base K := by rw [Nat.div_lt_iff_lt_mul (by omega), ← hpp]; exact ha
    have hlo : a % pw base K < pw base K := Nat.mod_lt _ (by omega)
    have hle : pw base K ≤ pw base (K + 1) := by rw [hpp]; exact Nat.le_mul_of_pos_left _ (by omega)
    have hlK := Nat.le_trans (limbs_mono hle) hl
    have hla := Nat.le_trans (limbs_mono (Nat.le_of_lt ha)) hl
    rw [hpk1] at ha
    have HT := Lib.hid ht
    have HX := Lib.hid hx
    have IH := Lib.hid ih
    have HLEN := Lib.hid hlen
    have HA := Lib.hid ha
    have HPK := Lib.hid hpk
    clear ht hx ih hlen ha hpk hpk1 hpp hle hl hmm
    have IHs : Hid (∀ (w : World) (v0 va : Value) (a : Nat) (xs : List Value) (first : Bool) (kk : Int), kk = (K : Int) - 1 → Tab base B P w n g cap vs → RowP isU8 B 5 w v0 xs → Nt w va a → a < pw base K → xs.length + m ≤ 1000000 →
      Calls Tryd.prog 63 #[v0, va, .int .i64 (base : Int), .int .i64 kk, .func (.func 84) #[] #[.pointer (some ⟨P, 0, none⟩)], .bool first] w fun e w' =>
      ∃ v, e = .returned v ∧ RowP isU8 B 5 w' v (xs ++ bytesV (wr1 base m a first)) ∧ KeptP isU8 B w w') := fun w v0 va a xs first kk hkk ht hx na ha hl => by
        have := IH.out w v0 va a xs first kk hkk (by omega) ht hx na ha hlK (by rw [hm]; exact hl)
        rw [hm] at this
        exact this
    clear IH hm
    go_enter Tryd.func63, Tryd.ntmps63
    go_wp2_with fail
    (with_reducible refine (power_have HT (show K < n by omega) hn _ rfl).mono ?_)
    rintro e w1 ⟨vp, rfl, hvp, rfl⟩
    go_wp2_with fail
    (with_reducible refine (divmod_nt na hvp hla hlK hp0).mono ?_)
    rintro e w2 ⟨vh, vl, rfl, hvh, hvl, hb2'⟩
    have HT2 := Lib.hid (HT.out.after hb2')
    have HX2 := Lib.hid (HX.out.after hb2')
    have HK2 := Lib.hid (KeptP.after (p := isU8) hb2' HT.out.bound)
    obtain ⟨ah, ch, fh, rfl, -⟩ := hvh.open
    have HVH := Lib.hid hvh
    have HVL := Lib.hid hvl
    clear hvp hb2' HT HX hvh hvl na
    by_cases hz : a / pw base K = 0
    · have hlz : limbs (a / pw base K) = 0 := by rw [hz]; rfl
      rw [hlz] at HVH ⊢
      cases first with
      | true =>
        have hw := Lib.hid (wr1_low hm0 (by rw [← HPK.out]; exact hz) hb)
        clear hlz
        go_wp2_with fail
        (with_reducible refine (IHs.out _ _ _ _ xs true _ rfl HT2.out HX2.out HVL.out hlo (by have := HLEN.out; omega)).mono ?_)
        rintro e w3 ⟨v3, rfl, hr3, hk3⟩
        have HR3 := Lib.hid hr3
        have HK3 := Lib.hid (HK2.out.trans hk3)
        clear hr3 hk3
        go_wp2_with fail
        go_ret
        exact ⟨_, rfl, by rw [hw.out, ← HPK.out]; exact HR3.out, HK3.out⟩
      | false =>
        have hw := Lib.hid (wr1_both (first := false) hb hb2 HA.out (.inl rfl))
        clear hlz
        go_wp2_with fail
        (with_reducible refine (IHs.out _ _ _ _ xs false _ rfl HT2.out HX2.out HVH.out hhi (by have := HLEN.out; omega)).mono ?_)
        rintro e w3 ⟨v3, rfl, hr3, hk3⟩
        have HR3 := Lib.hid hr3
        have HT3 := Lib.hid (HT2.out.keptP hk3)
        have HL3 := Lib.hid (HVL.out.keptP hk3)
        have HK3 := Lib.hid (HK2.out.trans hk3)
        have hlen3 : (xs ++ bytesV (wr1 base m (a / pw base K) false)).length + m ≤ 1000000 := by
          have h1 := wr1_len base m (a / pw base K) false
          have := HLEN.out
          rw [List.length_append, bytesV_len]
          omega
        clear hr3 hk3 HT2 HX2 HVL HK2
        go_wp2_with fail
        (with_reducible refine (IHs.out _ _ _ _ _ false _ rfl HT3.out HR3.out HL3.out hlo hlen3).mono ?_)
        rintro e w4 ⟨v4, rfl, hr4, hk4⟩
        have HR4 := Lib.hid hr4
        have HK4 := Lib.hid (HK3.out.trans hk4)
        clear hr4 hk4 hlen3
        go_wp2_with fail
        go_ret
        exact ⟨_, rfl, by rw [hw.out, ← HPK.out, bytesV_app, ← List.append_assoc]; exact HR4.out, HK4.out⟩
    · have hnz : a / base ^ m ≠ 0 := by rw [← HPK.out]; exact hz
      have hlp := limbs_pos hz
      have hlz : (((limbs (a / pw base K) : Nat) : Int) == 0) = false := by simp; omega
      have hlz2 : (limbs (a / pw base K) == 0) = false := by simp; omega
      cases first with
      | true =>
        have hw := Lib.hid (wr1_both (first := true) hb hb2 HA.out (.inr hnz))
        go_wp2_with fail
        (with_reducible refine (IHs.out _ _ _ _ xs true _ rfl HT2.out HX2.out HVH.out hhi (by have := HLEN.out; omega)).mono ?_)
        rintro e w3 ⟨v3, rfl, hr3, hk3⟩
        have HR3 := Lib.hid hr3
        have HT3 := Lib.hid (HT2.out.keptP hk3)
        have HL3 := Lib.hid (HVL.out.keptP hk3)
        have HK3 := Lib.hid (HK2.out.trans hk3)
        have hlen3 : (xs ++ bytesV (wr1 base m (a / pw base K) true)).length + m ≤ 1000000 := by
          have h1 := wr1_len base m (a / pw base K) true
          have := HLEN.out
          rw [List.length_append, bytesV_len]
          omega
        clear hr3 hk3 HT2 HX2 HVL HK2
        go_wp2_with fail
        (with_reducible refine (IHs.out _ _ _ _ _ false _ rfl HT3.out HR3.out HL3.out hlo hlen3).mono ?_)
        rintro e w4 ⟨v4, rfl, hr4, hk4⟩
        have HR4 := Lib.hid hr4
        have HK4 := Lib.hid (HK3.out.trans hk4)
        clear hr4 hk4 hlen3
        go_wp2_with fail
        go_ret
        exact ⟨_, rfl, by rw [hw.out, ← HPK.out, bytesV_app, ← List.append_assoc]; exact HR4.out, HK4.out⟩
      | false =>
        have hw := Lib.hid (wr1_both (first := false) hb hb2 HA.out (.inl rfl))
        go_wp2_with fail
        (with_reducible refine (IHs.out _ _ _ _ xs false _ rfl HT2.out HX2.out HVH.out hhi (by have := HLEN.out; omega)).mono ?_)
        rintro e w3 ⟨v3, rfl, hr3, hk3⟩
        have HR3 := Lib.hid hr3
        have HT3 := Lib.hid (HT2.out.keptP hk3)
        have HL3 := Lib.hid (HVL.out.keptP hk3)
        have HK3 := Lib.hid (HK2.out.trans hk3)
        have hlen3 : (xs ++ bytesV (wr1 base m (a / pw base K) false)).length + m ≤ 1000000 := by
          have h1 := wr1_len base m (a / pw base K) false
          have := HLEN.out
          rw [List.length_append, bytesV_len]
          omega
        clear hr3 hk3 HT2 HX2 HVL HK2
        go_wp2_with fail
        (with_reducible refine (IHs.out _ _ _ _ _ false _ rfl HT3.out HR3.out HL3.out hlo hlen3).mono ?_)
        rintro e w4 ⟨v4, rfl, hr4, hk4⟩
        have HR4 := Lib.hid hr4
        have HK4 := Lib.hid (HK3.out.trans hk4)
        clear hr4 hk4 hlen3
        go_wp2_with fail
        go_ret
        exact ⟨_, rfl, by rw [hw.out, ← HPK.out, bytesV_app, ← List.append_assoc]; exact HR4.out, HK4.out⟩
end Go.Proofs.YtopbfgmpilnghaaDoor

namespace Go.Proofs.YtopbfgmpilnghaaDoor
open Go.RowKit

/-- bytes as a string -/
def str (l : List Nat) : ByteArray := ⟨(l.map UInt8.ofNat).toArray⟩

theorem bare_len_le (l : List Nat) : (bare l).length ≤ l.length := by rw [bare_drop, List.length_drop]; omega
/-- the digits of a natural -/
def digs (b a : Nat) : List Nat := bare (pad b (a + 1) a)
theorem lt_pow_self' {b a : Nat} (hb : 2 ≤ b) : a < b ^ (a + 1) := Nat.lt_of_lt_of_le (Nat.lt_of_lt_of_le (Nat.lt_succ_self a) (Nat.le_of_lt Nat.lt_two_pow_self)) (Nat.pow_le_pow_left hb _)
theorem digs_pad {b m a : Nat} (hb : 2 ≤ b) (hm : a < b ^ m) (h0 : 0 < m) : bare (pad b m a) = digs b a := by
  unfold digs
  rcases Nat.le_total m (a + 1) with h | h
  · obtain ⟨d, hd⟩ : ∃ d, a + 1 = d + m := ⟨a + 1 - m, by omega⟩
    rw [hd, bare_pad_low hm h0]
  · obtain ⟨d, rfl⟩ : ∃ d, m = d + (a + 1) := ⟨m - (a + 1), by omega⟩
    rw [bare_pad_low (lt_pow_self' hb) (by omega)]

theorem pow_limbs {base a j : Nat} (hb : 2 ≤ base) (h : pw base j ≤ a) : 5 * 2 ^ j < 32 * limbs a := by
  have h1 : 2 ^ (5 * 2 ^ j) ≤ pw base j := Nat.pow_le_pow_left hb _
  have h2 := lt_limbs a
  rw [pow32] at h2
  exact (Nat.pow_lt_pow_iff_right (by omega)).1 (Nat.lt_of_le_of_lt (Nat.le_trans h1 h) h2)

/-- the powers that a reaches may be squared -/
def PowFit (base a : Nat) : Prop := ∀ i, pw base i ≤ a → MulFit (pw base i) (pw base i)
theorem PowFit.of {base a : Nat} (h : limbs a ≤ 47) : PowFit base a := fun i hi => by
  have := limbs_mono hi
  exact ⟨by omega, by omega, .inl (by omega)⟩

theorem pw_limbs {base a j : Nat} (hb2 : base ≤ 36) (h : ∀ i, i < j → pw base i ≤ a) : limbs (pw base j) ≤ 2 * limbs a + 1 := by
  rcases j with _ | j
  · have h5 : base ^ 5 ≤ 36 ^ 5 := Nat.pow_le_pow_left hb2 5
    have := limbs_small (a := base ^ 5) (by omega)
    have e : pw base 0 = base ^ 5 := rfl
    rw [e]
    omega
  · rw [pw_succ]
    have h1 := limbs_mul (pw base j) (pw base j)
    have h2 := limbs_mono (h j (by omega))
    omega

theorem cmp_le {a b : Nat} (h : a ≤ b) : ∃ c : Int, cmpI a b = c ∧ c ≤ 0 := by
  refine ⟨_, rfl, ?_⟩
  unfold cmpI
  split
  · omega
  · rw [if_pos (by omega)]; omega
theorem cmp_gt {a b : Nat} (h : b < a) : cmpI a b = 1 := cmp_more h

set_option maxRecDepth 100000 in
theorem str_back {w : World} {g cap : Nat} {e : TypeId} {l : List Nat} {B : Nat} (h : RowP isU8 B e w (.slice (some ⟨g, 0, none⟩) (bytesV l).length cap) (bytesV l)) (hl : ∀ x ∈ l, x < 256) (he : Tryd.prog.underlying 5 = some (.int .u8)) :
    (convert 49 9 (.slice (some ⟨g, 0, none⟩) l.length cap)).run Tryd.prog w = .ok (.string (str l)) w := by
  rcases h with ⟨h, _⟩ | ⟨g', cap', cur, h, hb, hg, hn, hm, hs, ht, ha⟩
  · cases h
  · cases h
    have := run_convert_bytes_back (P := Tryd.prog) w 49 9 5 ⟨g, 0, none⟩ cap (l.map UInt8.ofNat) Tryd.underlying49 Tryd.underlying5 Tryd.underlying9 (fun j hj => by
      rw [Addr.add_lit, Nat.zero_add]
      rw [List.length_map] at hj
      have hq : (bytesV l)[j]? = some (.int .u8 ((l[j] : Nat) : Int)) := by
        unfold bytesV
        rw [List.getElem?_map, List.getElem?_eq_getElem hj]
        rfl
      rw [← ht, List.getElem?_take] at hq
      simp only [World.cell?, hg]
      split at hq
      · rw [Array.getElem?_toList] at hq
        rw [hq]
        have hlt := hl l[j] (List.getElem_mem hj)
        simp only [List.getElem_map]
        have e2 : (UInt8.ofNat l[j]).toNat = l[j] := by rw [UInt8.toNat_ofNat', Nat.mod_eq_of_lt hlt]
        rw [e2]
        rfl
      · cases hq)
    rw [List.length_map] at this
    exact this

theorem bare_mem {l : List Nat} {x : Nat} (h : x ∈ bare l) : x ∈ l := by rw [bare_drop] at h; exact List.mem_of_mem_drop h
theorem pad_mem {b : Nat} (hb : 2 ≤ b) (hb2 : b ≤ 36) : ∀ {m a x : Nat}, x ∈ pad b m a → ∃ d, d < b ∧ x = dgb d
  | m + 1, a, x, h => by
    simp only [pad] at h
    rcases List.mem_append.1 h with h | h
    · exact pad_mem hb hb2 h
    · simp at h
      exact ⟨a % b, Nat.mod_lt _ (by omega), h⟩
theorem digs_mem {b a x : Nat} (hb : 2 ≤ b) (hb2 : b ≤ 36) (h : x ∈ digs b a) : ∃ d, d < b ∧ x = dgb d := pad_mem hb hb2 (bare_mem h)
theorem digs_byte {b a x : Nat} (hb : 2 ≤ b) (hb2 : b ≤ 36) (h : x ∈ digs b a) : x < 256 := by
  obtain ⟨d, hd, rfl⟩ := digs_mem hb hb2 h
  exact (dgb_lt (by omega)).1
theorem digs_ne {b a : Nat} : digs b a ≠ [] := bare_ne (by simp [pad])

set_option maxRecDepth 100000 in
set_option maxHeartbeats 2000000 in
theorem text_bad {va : Value} {base : Int} (h : ¬ (2 ≤ base ∧ base ≤ 36)) (w : World) :
    Calls Tryd.prog 21 #[va, .int .i64 base] w fun e w' => e = .returned (.tuple #[.string ⟨#[]⟩, .int .i64 1]) ∧ w = w' := by
  have hd : decide (2 ≤ base ∧ base ≤ 36) = false := decide_eq_false h
  go_enter Tryd.func21, Tryd.ntmps21
  go_wp2_with fail
  (with_reducible refine (may_any base _).mono ?_)
  rintro e w1 ⟨rfl, rfl⟩
  rw [hd]
  go_wp2_with fail
  refine bodyPost_ret (v := .tuple #[.string ⟨#[]⟩, .int .i64 1]) (by simp [results, Tryd.f21]) rfl ?_
  exact ⟨rfl, rfl⟩

set_option maxRecDepth 100000 in
set_option maxHeartbeats 8000000 in
theorem text_any {va : Value} {base a : Nat} {w : World} (hb : 2 ≤ base) (hb2 : base ≤ 36) (na : Nt w va a) (la : limbs a ≤ 10000) (hp : Hid (PowFit base a)) (i : Int) (hi : i = (base : Int)) :
    Calls Tryd.prog 21 #[va, .int .i64 i] w fun e w' => e = .returned (.tuple #[.string (str (digs base a)), .int .i64 0]) ∧ Below w.heap.size w w' := by
  subst hi
  have hd : decide (2 ≤ (base : Int) ∧ (base : Int) ≤ 36) = true := decide_eq_true (by omega)
  go_enter Tryd.func21, Tryd.ntmps21
  go_wp2_with fail
  (with_reducible refine (may_any _ _).mono ?_)
  rintro e w0 ⟨rfl, rfl⟩
  rw [hd]
  clear hd
  go_wp2_with fail
  (with_reducible refine (powers_any hb hb2 _ _ rfl).mono ?_)
  rintro e w1 ⟨P, rfl, ht1, hb1⟩
  have HT := Lib.hid ht1
  have HA := Lib.hid (na.below hb1)
  have HB1 := Lib.hid hb1
  have hbs := hb1.size
  clear ht1 na hb1
  go_wp2_with fail
  go_loopw [7] (fun kk wr => ∃ j : Nat, j ≤ 64000 ∧ kk = .int .i64 ((j : Int) - 1) ∧ (∀ i, i < j → pw base i ≤ a) ∧ Hid (Tb base w0.heap.size P wr) ∧ Hid (Kept w0.heap.size w1 wr)) (fun kk _ => (64000 - intOf kk).toNat)
  case atStart => exact ⟨0, by omega, by first | rfl | go_num, fun i hi => absurd hi (by omega), HT, Kept.refl _ _⟩
  case round =>
    clear HT
    obtain ⟨j, hj, rfl, hlow, ht, hk⟩ := hrel
    have hlim := pw_limbs hb2 hlow
    have HLOW := Lib.hid hlow
    have hfit : Hid (∀ i, i < j → MulFit (pw base i) (pw base i)) := fun i hi => hp.out i (hlow i hi)
    clear hlow
    have hjj : (j : Int) - 1 + 1 = (j : Int) := by omega
    go_wp2_with fail
    (with_reducible refine (power_any (show j ≤ 100000 by omega) ht hfit _ (by omega)).mono ?_)
    rintro e w2 ⟨vp, rfl, hvp, htab, hk2⟩
    have HTAB := Lib.hid htab
    have HK := Lib.hid (hk.out.trans hk2)
    have HA2 := Lib.hid (HA.out.kept HK.out)
    clear htab hk hk2 ht
    go_wp2_with fail
    (with_reducible refine (cmp_nt hvp HA2.out (by omega) (by omega)).mono ?_)
    rintro e w3 ⟨rfl, hd3⟩
    have HK3 := Lib.hid (HK.out.trans (Kept.after hd3.below (by have := HK.out.size; omega)))
    have HTAB3 : Hid (∃ n g cap vs, Tab base w0.heap.size P w3 n g cap vs ∧ j < n) := by
      obtain ⟨n, g, cap, vs, ht, hn⟩ := HTAB.out
      exact ⟨n, g, cap, vs, ht.after hd3.below, hn⟩
    clear HTAB HK HA2 hd3 hvp
    by_cases hle : pw base j ≤ a
    · obtain ⟨c, hc, hc0⟩ := cmp_le hle
      rw [hc]
      have hjb := pow_limbs hb hle
      have hj2 : j < 2 ^ j := Nat.lt_two_pow_self
      have HLE := Lib.hid hle
      clear hc hle
      have hj3 : j < 64000 := by omega
      clear hjb hj2 hlim
      go_wp2_with fail
      go_roundw
      case rel =>
        refine ⟨j + 1, by omega, by go_num, fun i hi => ?_, ?_, HK3.out⟩
        · by_cases e : i = j
          · rw [e]; exact HLE.out
          · exact HLOW.out i (by omega)
        · obtain ⟨n, g, cap, vs, ht, _⟩ := HTAB3.out
          exact ⟨n, g, cap, vs, ht⟩
      case measure => simp [intOf] <;> omega
    · rw [cmp_gt (by omega)]
      have hlt : a < pw base j := by omega
      have hj5 : 5 * 2 ^ j ≤ 1000000 := by
        rcases j with _ | j
        · omega
        · have := pow_limbs hb (HLOW.out j (by omega))
          rw [Nat.pow_succ]
          omega
      obtain ⟨n, g, cap, vs, ht3, hn3⟩ := HTAB3.out
      have hnf := ht3.few
      have HA3 := Lib.hid (HA.out.kept HK3.out)
      have HT3 := Lib.hid ht3
      clear HTAB3 hle ht3
      go_wp2_with fail
      (with_reducible refine (write_any hb hb2 hnf j _ _ _ a [] true _ (by omega) (by omega) HT3.out (RowP.nil _ _ _ _) HA3.out hlt (by omega) (by simpa using hj5)).mono ?_)
      rintro e w4 ⟨v4, rfl, hr4, hk4⟩
      have hdg : wr1 base (5 * 2 ^ j) a true = digs base a := digs_pad hb hlt (by have : 0 < 2 ^ j := Nat.pow_pos (by omega); omega)
      rw [List.nil_append, hdg] at hr4
      have HB : Hid (Below w0.heap.size w0 w4) := (HB1.out.trans HK3.out.below).trans hk4.below
      have hne : (bytesV (digs base a)).length ≠ 0 := by
        rw [bytesV_len]
        intro h
        exact digs_ne (List.eq_nil_of_length_eq_zero h)
      have hcv : ∃ g4 c4, v4 = .slice (some ⟨g4, 0, none⟩) (digs base a).length c4 ∧ (convert 49 9 (.slice (some ⟨g4, 0, none⟩) (digs base a).length c4)).run Tryd.prog w4 = .ok (.string (str (digs base a))) w4 := by
        have hr5 := hr4
        rcases hr4 with ⟨_, h⟩ | ⟨g4, c4, cur, rfl, _⟩
        · rw [h] at hne; exact absurd rfl hne
        · exact ⟨g4, c4, by rw [bytesV_len], str_back hr5 (fun x hx => digs_byte hb hb2 hx) Tryd.underlying5⟩
      obtain ⟨g4, c4, rfl, hconv⟩ := hcv
      clear hr4 hk4 hne hdg HT3 HA3 hlim
      go_wp2_with fail
      refine bodyPost_ret (v := .tuple #[.string (str (digs base a)), .int .i64 0]) (by simp [results, Tryd.f21]) rfl ?_
      exact ⟨rfl, HB.out⟩
end Go.Proofs.YtopbfgmpilnghaaDoor
