/- radix.write: the digits of a natural behind others. -/
import Derived.Test.YtopbfgmpilnghaaDoorLow

set_option linter.unusedVariables false
set_option linter.unusedSimpArgs false
namespace Go.Proofs.YtopbfgmpilnghaaDoor
open Go.RowKit

set_option maxRecDepth 100000 in
set_option maxHeartbeats 8000000 in
/-- a power that the table has -/
theorem power_have {base B P k n g cap : Nat} {vs : List Value} {w : World} (ht : Hid (Tab base B P w n g cap vs)) (hk : k < n) (hn : n ≤ 1000000) (i : Int) (hi : i = (k : Int)) :
    Calls Tryd.prog 84 #[.int .i64 i, .pointer (some ⟨P, 0, none⟩)] w fun e w' => ∃ v, e = .returned v ∧ Nt w v (pw base k) ∧ w = w' := by
  subst hi
  have c0 := Blk.cell (cs := #[_]) ht.out.box rfl
  obtain ⟨v, hv, nv⟩ := ht.out.val hk
  obtain ⟨av, cv, fv, rfl, -⟩ := nv.open
  have hc1 := ht.out.row.cell hv
  have HNV := Lib.hid nv
  clear nv hv
  generalize hlv : limbs (pw base k) = lv at *
  have HLV := Lib.hid hlv
  clear hlv
  go_enter Tryd.func84, Tryd.ntmps84
  go_wp2_with fail
  go_loop [4] (fun _ => True) (fun _ => 0)
  case atStart => trivial
  case round =>
    go_wp2_with fail
    go_ret
    exact ⟨_, rfl, HNV.out, rfl⟩

theorem info_u8 : (Tryd.prog.info? 5).map (fun i => (i.zero, i.size, i.bytes)) = some (some (.int .u8 0), 1, 1) := by kernel_rfl

def bytesV (l : List Nat) : List Value := l.map fun c : Nat => Value.int .u8 (c : Int)

theorem bytesV_len (l : List Nat) : (bytesV l).length = l.length := by simp [bytesV]
theorem bytesV_one (l : List Nat) : ∀ u ∈ bytesV l, u.oneCell' = true := by
  intro u hu
  unfold bytesV at hu
  obtain ⟨x, _, rfl⟩ := List.mem_map.1 hu
  rfl
theorem bytesV_u8 (l : List Nat) : ∀ u ∈ bytesV l, isU8 u = true := by
  intro u hu
  unfold bytesV at hu
  obtain ⟨x, _, rfl⟩ := List.mem_map.1 hu
  rfl
theorem news_at {W : World} {b k : Nat} {e : TypeId} {F : Nat → Nat} {l : List Nat} (hown : Own .u8 W b e 5 F) (hlist : ∀ i, i < 5 → l[i]? = some (F i)) (hlen : l.length = 5) :
    ∀ j u, (bytesV (l.drop k))[j]? = some u → W.cell? ((⟨b, k, none⟩ : Addr).add j) = some u := by
  intro j u hu
  simp only [bytesV, List.getElem?_map, List.getElem?_drop, Option.map_eq_some_iff] at hu
  obtain ⟨x, hx, rfl⟩ := hu
  have hlt : k + j < 5 := by
    have := (List.getElem?_eq_some_iff.1 hx).1
    omega
  rw [hlist _ hlt] at hx
  cases hx
  rw [Addr.add_lit]
  exact hown.cell hlt

set_option maxRecDepth 100000 in
theorem slice5 {b k : Nat} (hk : k < 5) (w : World) : (Instr.sliceAt 103 (.pointer (some ⟨b, 0, none⟩)) (some (.int .i64 (k : Int))) none none).run Tryd.prog w = .ok (.slice (some ⟨b, k, none⟩) (5 - k) (5 - k)) w := by
  obtain rfl | rfl | rfl | rfl | rfl : k = 0 ∨ k = 1 ∨ k = 2 ∨ k = 3 ∨ k = 4 := by omega
  all_goals go_simp

def signs : ByteArray := ⟨#[48, 49, 50, 51, 52, 53, 54, 55, 56, 57, 97, 98, 99, 100, 101, 102, 103, 104, 105, 106, 107, 108, 109, 110, 111, 112, 113, 114, 115, 116, 117, 118, 119, 120, 121, 122]⟩
theorem sign_at {d : Nat} (h : d < signs.size) : (signs[d]'h).toNat = dgb d := by
  have hd : d < 36 := h
  have : ∀ k : Fin 36, (signs[k.val]'(show k.val < 36 from k.isLt)).toNat = dgb k.val := by decide
  exact this ⟨d, hd⟩
theorem wrap_quo (q b : Nat) (hq : q < 18446744073709551616) : IntKind.u64.wrap ((q : Int) / (b : Int)) = ((q / b : Nat) : Int) := by
  rw [← Int.natCast_ediv]
  have := Nat.div_le_self q b
  generalize q / b = x at *
  simp [IntKind.wrap, IntKind.bits, IntKind.signed]
  omega

set_option maxRecDepth 100000 in
set_option maxHeartbeats 8000000 in
theorem write_low {base B P a : Nat} {v0 va : Value} {xs : List Value} {first : Bool} {w : World} (hb : 2 ≤ base) (hb2 : base ≤ 36) (hx : Hid (RowP isU8 B 5 w v0 xs)) (na : Nt w va a) (ha : a < base ^ 5) (hB : Hid (B ≤ w.heap.size)) (hxs : Hid (xs.length ≤ 1000000)) :
    Calls Tryd.prog 63 #[v0, va, .int .i64 (base : Int), .int .i64 (-1), .func (.func 84) #[] #[.pointer (some ⟨P, 0, none⟩)], .bool first] w fun e w' =>
      ∃ v, e = .returned v ∧ RowP isU8 B 5 w' v (xs ++ bytesV (if first then bare (pad base 5 a) else pad base 5 a)) ∧ KeptP isU8 B w w' := by
  have h36 : base ^ 5 ≤ 36 ^ 5 := Nat.pow_le_pow_left hb2 5
  have hal : a < 60466176 := by omega
  clear h36
  go_enter Tryd.func63, Tryd.ntmps63
  go_wp2_with fail
  (with_reducible refine (low_any na (by omega)).mono ?_)
  rintro e w1 ⟨rfl, hd1⟩
  have hx1 := Lib.hid (hx.out.after hd1.below)
  have hB1 : Hid (B ≤ w1.heap.size) := by have := hB.out; have e := hd1.heap; unfold Hid; rw [e]; exact this
  have T1 := Lib.hid (KeptP.after (p := isU8) (B := B) hd1.below hB.out)
  clear na hd1 hx hB
  go_wp2_with fail
  have hown0 : Own .u8 (w1.alloc (.cells #[.int .u8 0, .int .u8 0, .int .u8 0, .int .u8 0, .int .u8 0] 103)) w1.heap.size 103 5 (fun _ => 0) := by
    refine ⟨_, heap_alloc_new w1 _, rfl, fun j hj => ?_⟩
    rcases j with _ | _ | _ | _ | _ | j
    all_goals first | rfl | omega
  have HOWN := Lib.hid hown0
  have HT := Lib.hid (After.alloc (After.refl w1) (.cells #[.int .u8 0, .int .u8 0, .int .u8 0, .int .u8 0, .int .u8 0] 103))
  clear hown0
  generalize w1.alloc _ = w2 at *
  obtain ⟨b, hbz⟩ : ∃ b, w1.heap.size = b := ⟨_, rfl⟩
  rw [hbz] at HOWN ⊢
  have HBZ := Lib.hid hbz
  clear hbz
  go_loopw [13, 16] (fun nn i wr => ∃ (j : Nat) (F : Nat → Nat), j ≤ 5 ∧ i = .int .i64 (4 - (j : Int)) ∧ nn = .int .u64 ((a / base ^ j : Nat) : Int) ∧ Hid (Own .u8 wr b 103 5 F) ∧ Hid (∀ t, t < j → F (4 - t) = dgb (a / base ^ t % base)) ∧ Hid (After w1 wr)) (fun _ i _ => (intOf i + 1).toNat)
  case atStart => exact ⟨0, _, by omega, by first | rfl | go_num, by simp, HOWN, fun t ht => absurd ht (by omega), HT⟩
  case round =>
    clear HOWN HT
    obtain ⟨j, F, hj, rfl, rfl, hown, hF, T⟩ := hrel
    by_cases hlt : j < 5
    · obtain ⟨t, ht⟩ : ∃ t, 4 - j = t := ⟨_, rfl⟩
      have hi1 : (4 : Int) - (j : Int) = (t : Int) := by omega
      rw [hi1]
      have hc := hown.out.cell (j := t) (by omega)
      have hf := hown.out.free t
      have hq : a / base ^ j ≤ a := Nat.div_le_self _ _
      have hm : a / base ^ j % base < 36 := by have := Nat.mod_lt (a / base ^ j) (show 0 < base by omega); omega
      have hq2 : a / base ^ j / base = a / base ^ (j + 1) := by rw [Nat.div_div_eq_div_mul, ← Nat.pow_succ]
      have HQ2 := Lib.hid hq2
      have HQJ : Hid (∀ t, t = j → a / base ^ t = a / base ^ j) := fun t e => by rw [e]
      clear hq2 hi1
      generalize a / base ^ j = q at *
      have e0 := wrap_quo q base (by omega)
      go_wp2_with fail
      go_roundw
      case rel =>
        refine ⟨j + 1, upd F t (dgb (q % base)), by omega, val_eq (by omega), val_eq (by rw [← HQ2.out]; first | rfl | exact (Int.natCast_ediv q base).symm), ?_, fun s hs => ?_, Below.setCell T.out.out (Nat.le_of_eq HBZ.out) _⟩
        · have := hown.out.put t (dgb (q % base)) (v := _) (congrArg Int.ofNat (sign_at (d := q % base) (show q % base < 36 from hm)))
          exact this
        · by_cases e : s = j
          · subst e
            rw [show 4 - s = t by omega, upd_same, HQJ.out s rfl]
          · rw [upd_other _ _ (by omega)]
            exact hF.out s (by omega)
      case measure => simp [intOf] <;> omega
    · obtain rfl : j = 5 := by omega
      have hlist : Hid (∀ i, i < 5 → (pad base 5 a)[i]? = some (F i)) := fun i hi => by
        rw [pad_get base 5 a i hi]
        have := hF.out (4 - i) (by omega)
        rw [show 4 - (4 - i) = i by omega] at this
        rw [this]
      have hFb : Hid (∀ i, i < 5 → F i < 256 ∧ 48 ≤ F i) := fun i hi => by
        have := hF.out (4 - i) (by omega)
        rw [show 4 - (4 - i) = i by omega] at this
        rw [this]
        exact dgb_lt (by have := Nat.mod_lt (a / base ^ (4 - i)) (show 0 < base by omega); omega)
      have hlen := pad_len base 5 a
      have hbare := Lib.hid (bare_drop (pad base 5 a))
      have hls := Lib.hid (lead_spec (pad base 5 a))
      clear hF
      obtain ⟨l, hl⟩ : ∃ l, pad base 5 a = l := ⟨_, rfl⟩
      rw [hl] at hlist hlen hbare hls
      have HL := Lib.hid hl
      clear hl
      generalize a / base ^ 5 = q5
      have HLEN := Lib.hid hlen
      clear hlen
      have hx3 := Lib.hid (hx1.out.after T.out.out)
      have hB3 : Hid (B ≤ wr.heap.size) := by have := hB1.out; have := T.out.out.size; unfold Hid; omega
      have T3 := Lib.hid (T1.out.trans (KeptP.after T.out.out hB1.out))
      clear hx1 hB1 T1 T
      have hfive : (4 : Int) - ((5 : Nat) : Int) = -1 := rfl
      rw [hfive]
      obtain ⟨i0, hi, hz0, hz1, hz2⟩ := info_parts info_u8
      cases first with
      | false =>
        go_wp2_with fail
        go_loop [17] (fun i => i = .int .i64 0) (fun _ => 0)
        case atStart => rfl
        case round =>
          subst hrel
          go_wp2_with (at_builtin; refine wpList_append_p _ rfl _ _ 49 rfl isU8 B 5 i0 (.int .u8 0) 1 Tryd.underlying49 hi hz0 hz1 hz2 rfl rfl v0 xs rfl hx3.out ⟨b, 0, none⟩ 5 5 (bytesV (l.drop 0)) rfl ?c1 ?c2 ?c3 ?c4 ?c5 ?c6 ?c7 ?c8 ?_)
          case c1 => simpa [bytesV_len] using HLEN.out
          case c2 => have := news_at (k := 0) hown.out hlist.out HLEN.out; simpa [Addr.add_lit] using this
          case c3 => exact bytesV_one _
          case c4 => exact bytesV_u8 _
          case c6 => have := hxs.out; unfold maxLen; omega
          case c7 => have := hxs.out; omega
          case c8 => exact hB3.out
          intro v' w' hr' hg'
          have HR := Lib.hid hr'
          have HK := Lib.hid (T3.out.trans (KeptP.grown hx3.out hg' hB3.out))
          clear hr' hg'
          go_wp2_with fail
          go_ret
          exact ⟨_, rfl, by rw [HL.out]; simpa using HR.out, HK.out⟩
      | true =>
        go_wp2_with fail
        go_loopw [17] (fun i wr2 => ∃ k : Nat, k ≤ lead l ∧ i = .int .i64 (k : Int) ∧ wr2 = wr) (fun i _ => 4 - (intOf i).toNat)
        case atStart => exact ⟨0, by omega, rfl, rfl⟩
        case round =>
          obtain ⟨k, hk, rfl, rfl⟩ := hrel
          by_cases hlt : k < lead l
          · obtain ⟨h1, h2⟩ := hls.out.1 k hlt
            have h3 := hlist.out k (by have := HLEN.out; omega)
            have h4 : F k = 48 := by rw [h3] at h1; exact Option.some.inj h1
            have hk4 : k < 4 := by have := HLEN.out; omega
            have hc := hown.out.cell (j := k) (by omega)
            rw [h4] at hc
            clear h1 h2 h3 h4
            go_wp2_with fail
            go_roundw
            case rel => exact ⟨k + 1, by omega, by go_num, by first | rfl | trivial⟩
            case measure => simp [intOf]; omega
          · obtain ⟨q, hq⟩ : ∃ q, k = q := ⟨_, rfl⟩
            have hkl : k = lead l := by omega
            have hk5 : k ≤ 4 := by
              apply Classical.byContradiction
              intro h
              have h1 := (hls.out.1 (k - 1) (by omega)).2
              have := HLEN.out
              omega
            have hne : Hid (k < 4 → F k ≠ 48) := fun h4 e => by
              have h1 := hls.out.2 (by have := HLEN.out; omega)
              rw [← hkl, hlist.out k (by omega), e] at h1
              exact h1 rfl
            have HKL := Lib.hid hkl
            clear hkl hk hlt hq
            by_cases h4 : k < 4
            · have hF48 : ((F k : Int) == 48) = false := by have := hne.out h4; simp; omega
              have hF48' : (F k == 48) = false := by have := hne.out h4; simp; omega
              have hc := hown.out.cell (j := k) (by omega)
              have hsl := slice5 (b := b) (k := k) (by omega)
              go_wp2_with (at_builtin; refine wpList_append_p _ rfl _ _ 49 rfl isU8 B 5 i0 (.int .u8 0) 1 Tryd.underlying49 hi hz0 hz1 hz2 rfl rfl v0 xs rfl hx3.out ⟨b, k, none⟩ (5 - k) (5 - k) (bytesV (l.drop k)) rfl ?d1 ?d2 ?d3 ?d4 ?d5 ?d6 ?d7 ?d8 ?_)
              case d1 => have := HLEN.out; simp [bytesV_len]; omega
              case d2 => exact news_at (k := k) hown.out hlist.out HLEN.out
              case d3 => exact bytesV_one _
              case d4 => exact bytesV_u8 _
              case d5 => omega
              case d6 => have := hxs.out; unfold maxLen; omega
              case d7 => have := hxs.out; omega
              case d8 => exact hB3.out
              intro v' w' hr' hg'
              have HR := Lib.hid hr'
              have HK := Lib.hid (T3.out.trans (KeptP.grown hx3.out hg' hB3.out))
              clear hr' hg'
              go_wp2_with fail
              go_ret
              exact ⟨_, rfl, by have e := hbare.out; rw [← HKL.out] at e; rw [HL.out]; simp [e]; exact HR.out, HK.out⟩
            · obtain rfl : k = 4 := by omega
              go_wp2_with (at_builtin; refine wpList_append_p _ rfl _ _ 49 rfl isU8 B 5 i0 (.int .u8 0) 1 Tryd.underlying49 hi hz0 hz1 hz2 rfl rfl v0 xs rfl hx3.out ⟨b, 4, none⟩ 1 1 (bytesV (l.drop 4)) rfl ?e1 ?e2 ?e3 ?e4 ?e5 ?e6 ?e7 ?e8 ?_)
              case e1 => have := HLEN.out; simp [bytesV_len]; omega
              case e2 => exact news_at (k := 4) hown.out hlist.out HLEN.out
              case e3 => exact bytesV_one _
              case e4 => exact bytesV_u8 _
              case e5 => omega
              case e6 => have := hxs.out; unfold maxLen; omega
              case e7 => have := hxs.out; omega
              case e8 => exact hB3.out
              intro v' w' hr' hg'
              have HR := Lib.hid hr'
              have HK := Lib.hid (T3.out.trans (KeptP.grown hx3.out hg' hB3.out))
              clear hr' hg'
              go_wp2_with fail
              go_ret
              exact ⟨_, rfl, by have e := hbare.out; rw [← HKL.out] at e; rw [HL.out]; simp [e]; exact HR.out, HK.out⟩
end Go.Proofs.YtopbfgmpilnghaaDoor
