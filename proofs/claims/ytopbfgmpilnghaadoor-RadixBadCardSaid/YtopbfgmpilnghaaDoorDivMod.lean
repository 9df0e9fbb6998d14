/- div.DivMod: a quotient and a rest. -/
import Derived.Test.YtopbfgmpilnghaaDoorNorm

set_option linter.unusedVariables false
set_option linter.unusedSimpArgs false
namespace Go.Proofs.YtopbfgmpilnghaaDoor
open Go.RowKit

theorem OwnNt.slice {base : Nat} {w : World} {v : Value} {a : Nat} (h : OwnNt base w v a) (h0 : 0 < limbs a) :
    ∃ g cap f, v = .slice (some ⟨g, 0, none⟩) (limbs a) cap ∧ base ≤ g ∧ limbs a ≤ cap ∧ cap ≤ maxLen ∧ w.ownsRow base 46 1 v (limbs a) (cellsOf .u32 (limbs a) f) ∧ Fits (limbs a) f ∧ nv f (limbs a) = a := by
  obtain ⟨f, h1, h2, h3⟩ := h
  rcases h1.2 with ⟨rfl, he⟩ | ⟨g, cap, cur, rfl, hb, hg, hn, hm, hs, ht⟩
  · omega
  · exact ⟨g, cap, f, rfl, hb, hn, hm, h1, h2, h3⟩

theorem owns_row {base : Nat} {w : World} {k : IntKind} {g n cap : Nat} {e : TypeId} {f : Nat → Nat} (h : w.ownsRow base e 1 (.slice (some ⟨g, 0, none⟩) n cap) n (cellsOf k n f)) : Row k w g e n f := by
  rcases h.2 with ⟨h, _⟩ | ⟨g', cap', cur, h, hb, hg, hn, hm, hs, ht⟩
  · cases h
  · cases h
    refine ⟨_, hg, ?_, fun j hj => ?_⟩
    · have := congrArg List.length ht
      rw [cellsOf_length, List.length_take] at this
      simp
      omega
    · have hq := cellsOf_get k n f j hj
      rw [← ht, List.getElem?_take] at hq
      split at hq
      · simpa using hq
      · cases hq

theorem owns_slice {base : Nat} {w : World} {n : Nat} {v : Value} {e : TypeId} {xs : List Value} (h : w.ownsRow base e 1 v n xs) (h0 : 0 < n) : ∃ g cap, v = .slice (some ⟨g, 0, none⟩) n cap ∧ base ≤ g ∧ n ≤ cap ∧ cap ≤ maxLen := by
  have hl := h.1
  rcases h.2 with ⟨rfl, he⟩ | ⟨g, cap, cur, rfl, hb, hg, hn, hm, hs, ht⟩
  · subst he
    simp at hl
    omega
  · exact ⟨g, cap, rfl, hb, hn, hm⟩
theorem cellsOf_ext (f : Nat → Nat) (n : Nat) : cellsOf .u32 (n + 1) (ext f n) = cellsOf .u32 n f ++ [.int .u32 0] := by
  rw [cellsOf_snoc, cellsOf_congr .u32 n (ext f n) f (fun j hj => by unfold ext; rw [if_pos hj]), show ext f n n = 0 by unfold ext; rw [if_neg (by omega)]]
  rfl
theorem ext_fits {f : Nat → Nat} {n : Nat} (h : Fits n f) : Fits (n + 1) (ext f n) := fun j _ => by
  unfold ext
  split
  · exact h j ‹_›
  · omega

theorem Row.rd {k : IntKind} {W : World} {g : Nat} {e : TypeId} {N : Nat} {f : Nat → Nat} (h : Row k W g e N f) {n c : Nat} (hn : n ≤ N) (hc : n ≤ c) (hm : c ≤ maxLen) : Rd k W (.slice (some ⟨g, 0, none⟩) n c) n f :=
  ⟨_, c, rfl, hc, hm, fun _ => ⟨g, 0, rfl, h.lt, fun j hj => by rw [Nat.zero_add]; exact h.cell (by omega)⟩⟩

theorem cmp_ge {a b : Nat} (h : b ≤ a) : ∃ c : Int, cmpI a b = c ∧ 0 ≤ c := by
  refine ⟨_, rfl, ?_⟩
  unfold cmpI
  rw [if_neg (by omega)]
  split <;> omega

set_option maxRecDepth 100000 in
set_option maxHeartbeats 8000000 in
theorem divmod_big {va vb : Value} {a b : Nat} {w : World} (na : Nt w va a) (nb : Nt w vb b) (la : limbs a ≤ 100000000) (hlb : 2 ≤ limbs b) (hab : b ≤ a) :
    Calls Tryd.prog 73 #[va, vb] w fun e w' => ∃ vq vr, e = .returned (.tuple #[vq, vr, .int .i64 0]) ∧ Nt w' vq (a / b) ∧ Nt w' vr (a % b) ∧ Below w.heap.size w w' := by
  obtain ⟨i0, hi, hz0, hz1, hz2⟩ := info_parts info_u32
  have hlab : limbs b ≤ limbs a := limbs_mono hab
  obtain ⟨aa, ca, fa, rfl, -⟩ := na.open
  obtain ⟨ab, cb, fb, rfl, rb, ftb, nmb, vb'⟩ := nb.open
  obtain ⟨s, hs, hsi, hVl, hVlow⟩ := norm_shift hlb ftb nmb
  rw [vb'] at hVl hVlow
  obtain ⟨bb, ob, rfl, hbb, hbc⟩ := rb.at (by omega)
  have hcell := hbc (limbs b - 1) (by omega)
  have hft := ftb (limbs b - 1) (by omega)
  have hXl := norm_limbs (a := a) hs
  have hst := Lib.hid (norm_start (a := a) (V := b * 2 ^ s) hs hlab hlb hVlow)
  obtain ⟨c, hc, hc0⟩ := cmp_ge hab
  have hb0 : ((limbs b : Nat) : Int) ≠ 0 := by omega
  have hb1 : (((limbs b : Nat) : Int) == 0) = false := by simp; omega
  have hb2 : (((limbs b : Nat) : Int) == 1) = false := by simp; omega
  have HVL := Lib.hid hVlow
  have HXL := Lib.hid hXl
  have HVl := Lib.hid hVl
  have HSI := Lib.hid hsi
  have HC := Lib.hid hc
  have hbck := Lib.hid hbc
  clear hVlow hXl hVl hsi hc hbc rb ftb nmb vb'
  go_enter Tryd.func73, Tryd.ntmps73
  go_wp2_with fail
  (with_reducible refine (cmp_nt na nb (by omega) (by omega)).mono ?_)
  rintro e w1 ⟨rfl, hd1⟩
  rw [HC.out]
  have hcell1 : w1.cell? ⟨bb, ob + (limbs b - 1), none⟩ = _ := (hd1.cell _).trans hcell
  replace na := na.below hd1.below
  replace nb := nb.below hd1.below
  have hz : w1.heap.size = w.heap.size := by rw [hd1.heap]
  have T1 : Hid (Below w.heap.size w w1) := hd1.below
  clear hcell hd1
  go_wp2_with fail
  (with_reducible refine (lead_any hft _).mono ?_)
  rintro e w2 ⟨rfl, rfl⟩
  rw [← HSI.out]
  go_wp2_with fail
  (with_reducible refine (shl_own nb (by omega) (by omega) s rfl).mono ?_)
  rintro e w3 ⟨y, rfl, hy, hb3⟩
  replace na := na.below hb3
  go_wp2_with fail
  (with_reducible refine (shl_own na (by omega) (by omega) s rfl).mono ?_)
  rintro e w4 ⟨x, rfl, hx, hb4⟩
  obtain ⟨gy, cy, fy, rfl, hgy, hcy, hcm, hoy, hfy, hvy⟩ := hy.slice (by rw [HVl.out]; omega)
  obtain ⟨gx, cx, fx, rfl, hgx, hcx, hcxm, hox, hfx, hvx⟩ := hx.slice (by have := HXL.out.2.2; omega)
  rw [HVl.out] at hoy hfy hvy hcy
  rw [HVl.out]
  have hNa := HXL.out.2.1
  have hNb := HXL.out.2.2
  have hyt := norm_top hlb hfy hvy HVL.out
  have hyr := Lib.hid (owns_row hoy)
  have hgy4 := hyr.out.lt
  have hzz := hb3.size
  have hz4 := hb4.size
  have HOX := Lib.hid hox
  have HFX : Hid (Fits (limbs (a * 2 ^ s)) fx ∧ nv fx (limbs (a * 2 ^ s)) = a * 2 ^ s) := ⟨hfx, hvx⟩
  have HY : Hid (Fits (limbs b) fy ∧ nv fy (limbs b) = b * 2 ^ s) := ⟨hfy, hvy⟩
  have HB4 := Lib.hid hb4
  have HB3 := Lib.hid hb3
  clear hox hfx hvx hfy hvy hy hx hoy hb4 hb3
  go_wp2_with fail
  generalize hX : a * 2 ^ s = X at *
  generalize hV : b * 2 ^ s = V at *
  have HX := Lib.hid hX
  have HV := Lib.hid hV
  have HN2 : Hid (limbs V = limbs b ∧ X < V * 4294967296 ^ (limbs a + 1 - limbs b)) := ⟨HVl.out, hst.out⟩
  clear hX hV hst HXL HVl HVL HSI HC
  generalize limbs a = m at *
  generalize limbs b = n at *
  generalize limbs X = N0 at *
  go_loopw [12] (fun v wr => ∃ (N g cap : Nat) (f : Nat → Nat), v = .slice (some ⟨g, 0, none⟩) N cap ∧ m ≤ N ∧ N ≤ m + 1 ∧ w3.heap.size ≤ g ∧ N ≤ cap ∧ cap ≤ maxLen ∧
      Hid (wr.ownsRow w3.heap.size 46 1 (.slice (some ⟨g, 0, none⟩) N cap) N (cellsOf .u32 N f)) ∧ Hid (Fits N f ∧ nv f N = X) ∧ Hid (Below w3.heap.size w3 wr))
    (fun v _ => match v with | .slice _ q _ => m + 1 - q | _ => 0)
  case atStart => exact ⟨N0, gx, cx, fx, rfl, hNb, hNa, hgx, hcx, hcxm, HOX, HFX, HB4⟩
  case round =>
    clear hNa hNb hgx hcx hcxm HOX HFX HB4
    obtain ⟨N, g, cap, f, rfl, hN1, hN2, hg, hcap, hcm2, hown, hf, hbw⟩ := hrel
    by_cases hle : N ≤ m
    · have hbs := hbw.out.size
      go_wp2_with (at_builtin; refine wpList_append_own _ rfl _ _ 22 rfl w3.heap.size 46 i0 (.int .u32 0) 1 4 Tryd.underlying22 hi hz0 hz1 hz2 rfl (by decide) _ _ _ rfl (hown.out.alloc _) ⟨wr.heap.size, 0, none⟩ 1 1 [.int .u32 0] rfl rfl ?c1 ?c2 ?c3 ?c4 ?c5 ?_)
      case c1 => exact cell_one_new _ _ _
      case c2 => simp [Value.oneCell']
      case c3 => unfold maxLen; omega
      case c4 => omega
      case c5 => simp; omega
      intro v5 w5 hown5 hg5 hnil5
      obtain ⟨g5, c5, rfl, hg5b, hc5, hm5⟩ := owns_slice hown5 (by omega)
      have hext : cellsOf .u32 (N + 1) (ext f N) = cellsOf .u32 N f ++ [.int .u32 0] := cellsOf_ext f N
      rw [← hext] at hown5
      have HO5 := Lib.hid hown5
      have HB5 : Hid (Below w3.heap.size w3 w5) := by
        refine Below.grown (hbw.out.alloc hbs _) hg5 (by simp; omega) (fun j e => ?_)
        simp [Value.ownBlock] at e
        omega
      have HF5 : Hid (Fits (N + 1) (ext f N) ∧ nv (ext f N) (N + 1) = X) := ⟨ext_fits hf.out.1, (ext_nv f N).trans hf.out.2⟩
      clear hown5 hg5 hnil5 hext hown hf hbw hbs
      go_wp2_with fail
      go_roundw
      case rel => exact ⟨N + 1, g5, c5, ext f N, rfl, by omega, by omega, hg5b, hc5, hm5, HO5, HF5, HB5⟩
      case measure => simp; omega
    · obtain rfl : N = m + 1 := by omega
      obtain ⟨L, hL⟩ : ∃ L, m + 1 - n = L := ⟨_, rfl⟩
      have hmn : m + 1 = L + n := by omega
      have hrow := Lib.hid (owns_row hown.out)
      have hk0 : Hid (Knuth X V (m + 1) n L L f (fun _ => 0)) := Knuth.start hf.out.1 hmn hf.out.2 (by rw [← hL]; exact HN2.out.2)
      have hln : IntKind.i64.wrap ((m : Int) + 1 - (n : Int)) = (L : Int) := by rw [show (m : Int) + 1 - (n : Int) = L by omega]; exact IntWalk.i64_in _ (by omega)
      have hln2 : (m : Int) + 1 - (n : Int) = (L : Int) := by omega
      have hls := hbw.out.size
      have HLN := Lib.hid hln2
      clear hle hf hown hln hln2
      go_wp2_with (at_make; refine wpList_make_row _ rfl _ _ 22 rfl 46 i0 .u32 Tryd.underlying22 hi hz0 hz1 _ _ _ _ L L rfl rfl (by have := HLN.out; omega) (by have := HLN.out; omega) (by omega) (by rw [hz2]; omega) (by omega) ?_; intro w6 hown6 hgrow6 hsz6)
      have HB6 : Hid (Below w3.heap.size w3 w6) := Below.grown hbw.out hgrow6 hls (fun k e => by cases e)
      have HG6 : Hid (Row .u32 w6 g 46 (L + n) f) := by
        rw [← hmn]
        exact hrow.out.same (hgrow6.block g hrow.out.lt (by simp))
      have HQ6 := Lib.hid hown6
      have hgq := hrow.out.lt
      have HK : Hid (Knuth X V (L + n) n L L f (fun _ => 0)) := by rw [← hmn]; exact hk0.out
      have hLm : L + n ≤ 100000001 := by omega
      clear hown6 hgrow6 hsz6 hrow hk0 hbw hls HLN hL
      generalize wr.heap.size = gq at *
      have hyn : 2147483648 ≤ fy (n - 1) := hyt
      have hcapL : L + n ≤ cap := by omega
      clear hmn hN1 hN2 la hcap
      go_loopw [15] (fun iv wr2 => ∃ (k : Nat) (G Q : Nat → Nat), k ≤ L ∧ iv = .int .i64 ((k : Int) - 1) ∧ Hid (Row .u32 wr2 g 46 (L + n) G) ∧ Hid (Own .u32 wr2 gq 46 L Q) ∧ Hid (Knuth X V (L + n) n L k G Q) ∧ Hid (Below w3.heap.size w3 wr2)) (fun iv _ => (intOf iv + 1).toNat)
      case atStart => exact ⟨L, f, _, Nat.le_refl _, rfl, HG6, HQ6, HK, HB6⟩
      case round =>
        clear HG6 HQ6 HK HB6
        obtain ⟨k, G, Q, hk, rfl, hG, hQ, hkn, hbw⟩ := hrel
        by_cases hk0 : k = 0
        · subst hk0
          obtain ⟨kq, kr⟩ := hkn.out.done (by omega)
          have hbs := hbw.out.size
          go_wp2_with fail
          (with_reducible refine (make_nt (hQ.out.rd (Nat.le_refl _) (Nat.le_refl _) (by unfold maxLen; omega)) (by omega) hkn.out.fitq).mono ?_)
          rintro e w7 ⟨vq, rfl, hvq, hb7⟩
          rw [kq] at hvq
          have hG7 := Lib.hid (hG.out.same (hb7.block g hG.out.lt))
          have HB7 : Hid (Below w3.heap.size w3 w7) := hbw.out.trans (hb7.mono hbs)
          clear hG hQ hb7 hbw hbs
          go_wp2_with fail
          (with_reducible refine (make_nt (hG7.out.rd (Nat.le_refl _) hcapL hcm2) (by omega) hkn.out.fits).mono ?_)
          rintro e w8 ⟨vr, rfl, hvr, hb8⟩
          rw [kr] at hvr
          replace hvq := hvq.below hb8
          have HB8 : Hid (Below w3.heap.size w3 w8) := HB7.out.trans (hb8.mono HB7.out.size)
          clear hG7 HB7 hb8
          have hlr : limbs (X % V) ≤ 536870912 := by
            have h1 := nv_lt hkn.out.fits
            rw [kr] at h1
            have := limbs_le h1
            omega
          go_wp2_with fail
          (with_reducible refine (shr_int hvr hlr _ s rfl (by omega)).mono ?_)
          rintro e w9 ⟨vs, rfl, hvs, hb9⟩
          replace hvq := hvq.below hb9
          have HB9 : Hid (Below w3.heap.size w3 w9) := HB8.out.trans (hb9.mono HB8.out.size)
          have HVQ := Lib.hid hvq
          have HVS := Lib.hid hvs
          clear HB8 hb9 hvr hlr hvq hvs kq kr
          go_wp2_with fail
          refine bodyPost_ret (v := .tuple #[vq, vs, .int .i64 0]) (by simp [results, Tryd.f73]) rfl ?_
          obtain ⟨e1, e2⟩ := norm_back (a := a) (b := b) (s := s)
          rw [HX.out, HV.out] at e1 e2
          refine ⟨vq, vs, rfl, by rw [← e1]; exact HVQ.out, by rw [← e2]; exact HVS.out, ?_⟩
          exact (T1.out.trans (HB3.out.mono (by omega))).trans (HB9.out.mono (by omega))
        · obtain ⟨i, rfl⟩ : ∃ i, k = i + 1 := ⟨k - 1, by omega⟩
          have hi1 : (((i + 1 : Nat) : Int) - 1) = (i : Int) := by omega
          rw [hi1]
          have l1 := hG.out.cell (j := i + n) (by omega)
          have l2 := hG.out.cell (j := i + n - 1) (by omega)
          have l3 := hG.out.cell (j := i + n - 2) (by omega)
          have hyb : ∀ j, j < n → wr.cell? ⟨gy, j, none⟩ = some (.int .u32 (fy j)) := fun j hj => (hbw.out.cell (p := ⟨gy, j, none⟩) hgy4).trans (hyr.out.cell hj)
          have l4 := hyb (n - 1) (by omega)
          have l5 := hyb (n - 2) (by omega)
          have HYB := Lib.hid hyb
          have s1 : IntKind.i64.wrap ((i : Int) + (n : Int)) = (i : Int) + (n : Int) := IntWalk.i64_in _ (by omega)
          have s2 : ((i : Int) + (n : Int)).toNat = i + n := by omega
          have s3 : IntKind.i64.wrap ((i : Int) + (n : Int) - 1) = (i : Int) + (n : Int) - 1 := IntWalk.i64_in _ (by omega)
          have s4 : ((i : Int) + (n : Int) - 1).toNat = i + n - 1 := by omega
          have s5 : IntKind.i64.wrap ((i : Int) + (n : Int) - 2) = (i : Int) + (n : Int) - 2 := IntWalk.i64_in _ (by omega)
          have s6 : ((i : Int) + (n : Int) - 2).toNat = i + n - 2 := by omega
          have s7 : IntKind.i64.wrap ((n : Int) - 1) = (n : Int) - 1 := IntWalk.i64_in _ (by omega)
          have s8 : ((n : Int) - 1).toNat = n - 1 := by omega
          have s9 : IntKind.i64.wrap ((n : Int) - 2) = (n : Int) - 2 := IntWalk.i64_in _ (by omega)
          have s10 : ((n : Int) - 2).toNat = n - 2 := by omega
          have b1 : (0 : Int) ≤ (i : Int) + (n : Int) - 2 := by omega
          have b2 : (i : Int) + (n : Int) < ((L + n : Nat) : Int) := by omega
          have b3 : (0 : Int) ≤ (n : Int) - 2 := by omega
          have b1' : (0 : Int) ≤ (i : Int) + (n : Int) - 1 := by omega
          have b2' : (i : Int) + (n : Int) - 1 < ((L + n : Nat) : Int) := by omega
          have b2'' : (i : Int) + (n : Int) - 2 < ((L + n : Nat) : Int) := by omega
          have b3' : (0 : Int) ≤ (n : Int) - 1 := by omega
          have b4 : (n : Int) - 1 < (n : Int) := by omega
          have b5 : (n : Int) - 2 < (n : Int) := by omega
          have b6 : (0 : Int) ≤ (i : Int) + (n : Int) := by omega
          have f1 := hkn.out.fits (i + n) (by omega)
          have f2 := hkn.out.fits (i + n - 1) (by omega)
          have f3 := hkn.out.fits (i + n - 2) (by omega)
          have f4 := HY.out.1 (n - 1) (by omega)
          have f5 := HY.out.1 (n - 2) (by omega)
          have htop := hkn.out.top (y := fy) HY.out.1 HY.out.2 (by omega) (by omega)
          have HGD := Lib.hid (fun w' => guess_gd f2 f3 hyn f4 htop f5 w')
          have hgg : Hid (Guessed (G (i + n) * 4294967296 + G (i + n - 1)) (G (i + n - 2)) (fy (n - 1)) (fy (n - 2)) (gd (G (i + n) * 4294967296 + G (i + n - 1)) (G (i + n - 2)) (fy (n - 1)) (fy (n - 2)))) := gd_guessed (by omega)
          clear hyb hi1 f1 f2 f3 f4 f5 htop
          generalize gd (G (i + n) * 4294967296 + G (i + n - 1)) (G (i + n - 2)) (fy (n - 1)) (fy (n - 2)) = q at *
          go_wp2_with fail
          go_quiet ((go_at_call 95; exact Calls.quiet_of (HGD.out _)))
          clear s1 s2 s3 s4 s5 s6 s7 s8 s9 s10 b1 b2 b3 b1' b2' b2'' b3' b4 b5 b6 l1 l2 l3 l4 l5 HGD
          go_wp2_with fail
          have HTK := Lib.hid (fun w' cx cy (h1 : Row .u32 w' g 46 (L + n) G) (h2 : ∀ j, j < n → w'.cell? ⟨gy, 0 + j, none⟩ = some (.int .u32 (fy j))) (h3 : gy < w'.heap.size) => take_any (g := g) (off := i) (m := n) (N := L + n) (bb := gy) (ob := 0) (cx := cx) (cb := cy) (q := q) (F := G) (fb := fy) (w := w') (by omega) hgg.out.lt (by show i + n + 1 ≤ L + n; omega) h1 hkn.out.fits HY.out.1 ⟨h3, by omega⟩ h2)
          have hbn : Hid (Below w3.heap.size w3 (wr.drewN nq)) := hbw.out.trans (Drawn.below ⟨nq, rfl⟩)
          have hGn : Hid (Row .u32 (wr.drewN nq) g 46 (L + n) G) := hG.out.same rfl
          have hQn : Hid (Own .u32 (wr.drewN nq) gq 46 L Q) := hQ.out.same rfl
          clear hbw hG hQ
          rw [show i + n + 1 - i = n + 1 by omega]
          generalize wr.drewN nq = W5 at *
          have hyb : ∀ W, Below w3.heap.size w3 W → ∀ j, j < n → W.cell? ⟨gy, 0 + j, none⟩ = some (.int .u32 (fy j)) := fun W h j hj => by rw [Nat.zero_add]; exact (h.cell (p := ⟨gy, j, none⟩) hgy4).trans (hyr.out.cell hj)
          have HYB2 := Lib.hid hyb
          clear hyb HYB
          have hgyW := Nat.lt_of_lt_of_le hgy4 hbn.out.size
          (with_reducible refine (HTK.out _ _ _ hGn.out (HYB2.out _ hbn.out) hgyW).mono ?_)
          rintro e w7 ⟨t, G1, rfl, hr7, ht7, ho7⟩
          have hb7 : Hid (Below w3.heap.size w3 w7) := Only.below hbn.out ho7 hg (Nat.le_refl _)
          have hr7' := Lib.hid hr7
          have hQ7 : Hid (Own .u32 w7 gq 46 L Q) := hQn.out.same (ho7.block gq hQn.out.lt (by omega))
          have htook := hkn.out.took (by omega) hlb HY.out.1 HY.out.2 hyn hgg.out ht7
          have hfit7 := Lib.hid ht7.fits
          have helse : Hid (∀ j, j < i ∨ i + (n + 1) ≤ j → G1 j = G j) := ht7.else'
          have hVlt : Hid (V < 4294967296 ^ n) := by have := nv_lt HY.out.1; rw [HY.out.2] at this; exact this
          have hql := hgg.out.lt
          clear hr7 ht7 ho7 hGn hQn hbn HTK hgg
          rcases htook with ⟨rfl, hw1, hw2⟩ | ⟨rfl, hq0, r, hr1, hr2, hr3⟩
          · have hnew : Hid (Knuth X V (L + n) n L i G1 (upd Q i q)) := hkn.out.put (by omega) (by omega) hfit7.out hql helse.out hw1 hw2 hVlt.out
            have hdd : decide (0 < 0) = false := rfl
            have hcq := hQ7.out.cell (j := i) (by omega)
            have hfq := hQ7.out.free i
            clear hw1 hw2 helse hfit7 hkn hVlt
            go_wp2_with fail
            go_roundw
            case rel => exact ⟨i, G1, upd Q i q, by omega, by go_num, hr7'.out.same (Below.heap_setCell _ _ _ _ (by simp; omega)), hQ7.out.put i q rfl, hnew.out, Below.setCell hb7.out (by simp; omega) _⟩
            case measure => simp [intOf] <;> omega
          · have hdd : decide (0 < 1) = true := rfl
            have hcq := hQ7.out.cell (j := i) (by omega)
            have hfq := hQ7.out.free i
            have hgyW7 := Nat.lt_of_lt_of_le hgy4 hb7.out.size
            have HBK := Lib.hid (fun cx cy => back_any (g := g) (off := i) (m := n) (N := L + n) (bb := gy) (ob := 0) (cx := cx) (cb := cy) (F := G1) (fb := fy) (w := w7) (by omega) (by show i + n + 1 ≤ L + n; omega) hr7'.out hfit7.out HY.out.1 ⟨hgyW7, by omega⟩ (HYB2.out _ hb7.out))
            have HR1 := Lib.hid hr1
            have HR2 := Lib.hid hr2
            have HR3 := Lib.hid hr3
            clear hr1 hr2 hr3
            go_wp2_with fail
            rw [show i + n + 1 - i = n + 1 by omega]
            (with_reducible refine (HBK.out _ _).mono ?_)
            rintro e w8 ⟨s8, G2, rfl, hr8, hb8, ho8⟩
            have hwin := Knuth.gave HY.out.2 (by omega) HR3.out hb8
            have hnew : Hid (Knuth X V (L + n) n L i G2 (upd Q i (q - 1))) := by
              refine hkn.out.put (by omega) (by omega) hb8.fits (by omega) (fun j hj => ?_) ?_ (by rw [hwin]; exact HR1.out) hVlt.out
              · rw [hb8.else' j hj]; exact helse.out j hj
              · rw [hwin]; exact HR2.out
            have hb8' : Hid (Below w3.heap.size w3 w8) := Only.below hb7.out ho8 hg (Nat.le_refl _)
            have hr8' := Lib.hid hr8
            have hQ8 : Hid (Own .u32 w8 gq 46 L Q) := hQ7.out.same (ho8.block gq hQ7.out.lt (by omega))
            have hcq8 := hQ8.out.cell (j := i) (by omega)
            have hfq8 := hQ8.out.free i
            have hq1 : (q : Int) - 1 = ((q - 1 : Nat) : Int) := by omega
            rw [hq1]
            have hq2 : q - 1 < 4294967296 := by omega
            have HQ1 := Lib.hid hq1
            clear hwin hr8 hb8 ho8 hq1 hcq hfq HBK HR1 HR2 HR3 helse hfit7 hkn hVlt hQ7 hr7'
            go_wp2_with fail
            go_roundw
            case rel => exact ⟨i, G2, upd Q i (q - 1), by omega, by go_num, hr8'.out.same (Below.heap_setCell _ _ _ _ (by simp; omega)), hQ8.out.put i (q - 1) (by first | rfl | omega), hnew.out, Below.setCell hb8'.out (by simp; omega) _⟩
            case measure => simp [intOf] <;> omega
end Go.Proofs.YtopbfgmpilnghaaDoor
