/- The plain law of div.DivMod: one limb of a quotient after the other, from above. No function of the program stands here. div.DivMod's shifts: the divisor's first bit is made 1. The guess as a number. div.DivMod: a quotient and a rest. div.DivMod at all naturals. -/
import Derived.Test.YtopbfgmpilnghaaDoorSmall
import Derived.Lib.ItoaNum
set_option linter.unusedVariables false
set_option linter.unusedSimpArgs false
namespace Go.Proofs.YtopbfgmpilnghaaDoor
open Go.RowKit

/-- the limbs from k on of the quotient Q are known; G is what is left of A -/
structure Knuth (A V N n L k : Nat) (G Q : Nat → Nat) : Prop where
  fits : Fits N G
  fitq : Fits L Q
  zero : ∀ j, j < k → Q j = 0
  win : nv (fun j => G (k + j)) n < V
  high : ∀ j, k + n ≤ j → j < N → G j = 0
  sum : V * nv Q L + nv G N = A

theorem nv_all_zero {f : Nat → Nat} {n : Nat} (h : ∀ j, j < n → f j = 0) : nv f n = 0 := by
  rw [nv_high_zero (m := 0) (Nat.zero_le _) (fun j _ hj => h j hj)]; rfl

/-- three limbs on top, and the others -/
theorem nv_top3 {f : Nat → Nat} {m : Nat} (hf : Fits (m + 3) f) : ∃ r, r < 4294967296 ^ m ∧ nv f (m + 3) = ((f (m + 2) * 4294967296 + f (m + 1)) * 4294967296 + f m) * 4294967296 ^ m + r := by
  refine ⟨nv f m, nv_lt (hf.mono (by omega)), ?_⟩
  simp only [nv, Nat.pow_succ]
  generalize 4294967296 ^ m = P
  grind
theorem nv_top2 {f : Nat → Nat} {m : Nat} (hf : Fits (m + 2) f) : ∃ r, r < 4294967296 ^ m ∧ nv f (m + 2) = (f (m + 1) * 4294967296 + f m) * 4294967296 ^ m + r := by
  refine ⟨nv f m, nv_lt (hf.mono (by omega)), ?_⟩
  simp only [nv, Nat.pow_succ]
  generalize 4294967296 ^ m = P
  grind

/-- the guess is right, or one too great -/
theorem guess_near {m T V g q : Nat} {t x0 y1 y0 r1 r2 : Nat} (hT : T = (t * 4294967296 + x0) * 4294967296 ^ m + r1) (hV : V = (y1 * 4294967296 + y0) * 4294967296 ^ m + r2) (h1 : r1 < 4294967296 ^ m) (h2 : r2 < 4294967296 ^ m)
    (hy : 1 ≤ y1) (hg : Guessed t x0 y1 y0 g) (hq : q = T / V) (hTV : T < V * 4294967296) : q ≤ g ∧ g ≤ q + 1 ∧ q < 4294967296 := by
  obtain ⟨hl, hf, hlow⟩ := hg
  have hP : 0 < 4294967296 ^ m := Nat.pow_pos (by omega)
  generalize 4294967296 ^ m = P at *
  have hV0 : 0 < V := by
    have : 1 * P ≤ (y1 * 4294967296 + y0) * P := Nat.mul_le_mul_right _ (by omega)
    omega
  have hq1 : q < 4294967296 := by rw [hq, Nat.div_lt_iff_lt_mul hV0, Nat.mul_comm]; exact hTV
  refine ⟨hlow q hq1 ?_, ?_, hq1⟩
  · have hqV : q * V ≤ T := by rw [hq]; exact Nat.div_mul_le_self T V
    have h3 : q * ((y1 * 4294967296 + y0) * P) ≤ q * V := Nat.mul_le_mul_left _ (by omega)
    have h4 : q * (y1 * 4294967296 + y0) * P < (t * 4294967296 + x0 + 1) * P := by
      rw [Nat.mul_assoc, Nat.add_mul (t * 4294967296 + x0) 1 P, Nat.one_mul]; omega
    have := Nat.lt_of_mul_lt_mul_right h4
    omega
  · rcases Nat.eq_zero_or_pos g with rfl | hg0
    · omega
    obtain ⟨p, rfl⟩ : ∃ p, g = p + 1 := ⟨g - 1, by omega⟩
    have h5 : p * V ≤ T := by
      have e1 : (p + 1) * (y1 * 4294967296 + y0) * P ≤ (t * 4294967296 + x0) * P := Nat.mul_le_mul_right _ hf
      have e2 : (p + 1) * V = (p + 1) * (y1 * 4294967296 + y0) * P + (p + 1) * r2 := by rw [hV, Nat.mul_add, Nat.mul_assoc]
      have e3 : (p + 1) * r2 ≤ 4294967296 * P := Nat.mul_le_mul (by omega) (by omega)
      have e4 : 4294967296 * P ≤ V := by
        rw [hV]
        have : 4294967296 * P ≤ (y1 * 4294967296 + y0) * P := Nat.mul_le_mul_right _ (by omega)
        omega
      have e5 : (p + 1) * V = p * V + V := by rw [Nat.add_mul, Nat.one_mul]
      omega
    have : p ≤ q := by rw [hq, Nat.le_div_iff_mul_le hV0]; exact h5
    omega

theorem win_cut {f : Nat → Nat} {N i m : Nat} (h : i + m ≤ N) : nv f N = nv f i + 4294967296 ^ i * (nv (fun j => f (i + j)) m + 4294967296 ^ m * nv (fun j => f (i + m + j)) (N - (i + m))) := by
  obtain ⟨d, rfl⟩ : ∃ d, N = i + (m + d) := ⟨N - (i + m), by omega⟩
  rw [nv_shift f i (m + d), nv_shift (fun j => f (i + j)) m d]
  rw [show i + (m + d) - (i + m) = d by omega, show (fun j => f (i + m + j)) = (fun j => f (i + (m + j))) from funext fun j => by rw [Nat.add_assoc]]

theorem win_swap {f g : Nat → Nat} {N i m : Nat} (h : i + m ≤ N) (hfg : ∀ j, j < i ∨ i + m ≤ j → g j = f j) : nv g N + 4294967296 ^ i * nv (fun j => f (i + j)) m = nv f N + 4294967296 ^ i * nv (fun j => g (i + j)) m := by
  rw [win_cut (f := f) h, win_cut (f := g) h, nv_congr (f := g) (g := f) (n := i) (fun j hj => hfg j (.inl hj)),
    nv_congr (f := fun j => g (i + m + j)) (g := fun j => f (i + m + j)) (fun j _ => hfg _ (.inr (by omega)))]
  simp only [Nat.mul_add]
  omega

/-- what the window is worth, one limb lower -/
theorem Knuth.next {A V N n L i : Nat} {G Q : Nat → Nat} (h : Knuth A V N n L (i + 1) G Q) (hi : i + n + 1 ≤ N) : nv (fun j => G (i + j)) (n + 1) < V * 4294967296 := by
  have hw := h.win
  have e : nv (fun j => G (i + j)) (n + 1) = G i + 4294967296 * nv (fun j => G (i + 1 + j)) n := by
    rw [Nat.add_comm n 1, nv_shift (fun j => G (i + j)) 1 n]
    simp only [nv, Nat.pow_one, Nat.pow_zero, Nat.mul_one, Nat.add_zero, Nat.zero_add]
    rw [show (fun j => G (i + (1 + j))) = (fun j => G (i + 1 + j)) from funext fun j => by rw [Nat.add_assoc]]
  rw [e]
  have := h.fits i (by omega)
  have h2 : (nv (fun j => G (i + 1 + j)) n + 1) * 4294967296 ≤ V * 4294967296 := Nat.mul_le_mul_right _ hw
  rw [Nat.add_mul] at h2
  rw [Nat.mul_comm 4294967296]
  omega

/-- the first limb of the window is not above the divisor's -/
theorem Knuth.top {A V N n L i : Nat} {G Q y : Nat → Nat} (h : Knuth A V N n L (i + 1) G Q) (hy : Fits n y) (hV : nv y n = V) (hn : 2 ≤ n) (hi : i + n + 1 ≤ N) : G (i + n) ≤ y (n - 1) := by
  obtain ⟨m, rfl⟩ : ∃ m, n = m + 1 := ⟨n - 1, by omega⟩
  have hw := h.win
  rw [Nat.add_sub_cancel]
  simp only [nv] at hV hw
  rw [show i + 1 + m = i + (m + 1) by omega] at hw
  have hlo := nv_lt (hy.mono (Nat.le_succ m))
  apply Classical.byContradiction
  intro hne
  have h1 : (y m + 1) * 4294967296 ^ m ≤ G (i + (m + 1)) * 4294967296 ^ m := Nat.mul_le_mul_right _ (by omega)
  rw [Nat.add_mul, Nat.one_mul] at h1
  omega

/-- one limb more -/
theorem Knuth.put {A V N n L i q : Nat} {G G' Q : Nat → Nat} (h : Knuth A V N n L (i + 1) G Q) (hi : i + n + 1 ≤ N) (hL : i < L) (hG : Fits N G') (hq : q < 4294967296) (he : ∀ j, j < i ∨ i + (n + 1) ≤ j → G' j = G j)
    (hv : nv (fun j => G (i + j)) (n + 1) = q * V + nv (fun j => G' (i + j)) (n + 1)) (hw : nv (fun j => G' (i + j)) (n + 1) < V) (hV : V < 4294967296 ^ n) : Knuth A V N n L i G' (upd Q i q) := by
  obtain ⟨h1, h2, h3, h4, h5, h6⟩ := h
  have hFw : Fits (n + 1) (fun j => G' (i + j)) := fun j hj => hG _ (by omega)
  have htop : G' (i + n) = 0 := by
    apply Classical.byContradiction
    intro hne
    simp only [nv] at hw
    have : 1 * 4294967296 ^ n ≤ G' (i + n) * 4294967296 ^ n := Nat.mul_le_mul_right _ (by omega)
    omega
  refine ⟨hG, h2.upd _ hq, fun j hj => by rw [upd_other _ _ (by omega)]; exact h3 j (by omega), ?_, fun j hj hn => ?_, ?_⟩
  · simp only [nv] at hw
    omega
  · by_cases e : j = i + n
    · rw [e]; exact htop
    · rw [he j (.inr (by omega))]; exact h5 j (by omega) hn
  · have e1 := nv_upd Q i q L hL
    rw [h3 i (by omega), Nat.zero_mul, Nat.add_zero] at e1
    have e2 := win_swap (f := G) (g := G') (N := N) (i := i) (m := n + 1) (by omega) he
    rw [hv] at e2
    rw [e1, Nat.mul_add, ← h6]
    generalize 4294967296 ^ i = P at *
    rw [Nat.mul_add P] at e2
    have e3 : P * (q * V) = V * (q * P) := by rw [Nat.mul_comm q V, Nat.mul_left_comm]; congr 1; exact Nat.mul_comm _ _
    rw [e3] at e2
    omega

/-- behind the take: all is well, or one divisor is owed -/
theorem Knuth.took {A V N n L i g t : Nat} {G G' Q y : Nat → Nat} (h : Knuth A V N n L (i + 1) G Q) (hi : i + n + 1 ≤ N) (hn : 2 ≤ n) (hy : Fits n y) (hV : nv y n = V) (hy1 : 2147483648 ≤ y (n - 1))
    (hg : Guessed (G (i + n) * 4294967296 + G (i + n - 1)) (G (i + n - 2)) (y (n - 1)) (y (n - 2)) g) (ht : TakeIn G (ext y n) g i N (n + 1) 0 t G') :
    (t = 0 ∧ nv (fun j => G (i + j)) (n + 1) = g * V + nv (fun j => G' (i + j)) (n + 1) ∧ nv (fun j => G' (i + j)) (n + 1) < V) ∨
    (t = 1 ∧ 0 < g ∧ ∃ r, r < V ∧ nv (fun j => G (i + j)) (n + 1) = (g - 1) * V + r ∧ nv (fun j => G' (i + j)) (n + 1) + V = 4294967296 ^ (n + 1) + r) := by
  obtain ⟨m, rfl⟩ : ∃ m, n = m + 2 := ⟨n - 2, by omega⟩
  have hF3 : Fits (m + 3) (fun j => G (i + j)) := fun j hj => h.fits _ (by omega)
  have hTV := h.next hi
  obtain ⟨r1, hr1, e1⟩ := nv_top3 hF3
  obtain ⟨r2, hr2, e2⟩ := nv_top2 hy
  rw [show i + (m + 2) - 1 = i + (m + 1) by omega, show i + (m + 2) - 2 = i + m by omega, show m + 2 - 1 = m + 1 by omega, show m + 2 - 2 = m by omega] at hg
  rw [show m + 2 - 1 = m + 1 by omega] at hy1
  have hnear := guess_near (q := nv (fun j => G (i + j)) (m + 3) / V) e1 (hV.symm.trans e2) hr1 hr2 (by omega) hg rfl hTV
  have hs := ht.taking.sum
  have ho := ht.taking.owed
  rw [ext_nv, hV] at hs
  have hG' : nv (fun j => G' (i + j)) (m + 3) < 4294967296 ^ (m + 3) := nv_lt fun j hj => ht.fits _ (by omega)
  have hVl : V < 4294967296 ^ (m + 3) := by
    have h1 := nv_lt hy
    rw [hV] at h1
    exact Nat.lt_of_lt_of_le h1 (Nat.pow_le_pow_right (by omega) (by omega))
  have hV0 : 0 < V := by omega
  have hdm := Nat.div_add_mod (nv (fun j => G (i + j)) (m + 3)) V
  have hml := Nat.mod_lt (nv (fun j => G (i + j)) (m + 3)) hV0
  rw [show m + 2 + 1 = m + 3 by omega] at *
  generalize nv (fun j => G (i + j)) (m + 3) = T at *
  generalize nv (fun j => G' (i + j)) (m + 3) = R at *
  generalize 4294967296 ^ (m + 3) = B at *
  generalize T / V = q at *
  generalize T % V = r at *
  rw [Nat.mul_comm V q] at hdm
  obtain ⟨n1, n2, n3⟩ := hnear
  have hcase : g = q ∨ g = q + 1 := by omega
  rcases hcase with rfl | rfl
  · left
    have ht0 : t = 0 := by
      apply Classical.byContradiction
      intro hne
      obtain rfl : t = 1 := by omega
      omega
    subst ht0
    exact ⟨rfl, by omega, by omega⟩
  · right
    have e5 : (q + 1) * V = q * V + V := by rw [Nat.add_mul, Nat.one_mul]
    rw [e5] at hs
    have ht1 : t = 1 := by
      apply Classical.byContradiction
      intro hne
      obtain rfl : t = 0 := by omega
      omega
    subst ht1
    exact ⟨rfl, by omega, r, hml, by rw [Nat.add_sub_cancel]; omega, by omega⟩

theorem Knuth.gave {V N n i s r : Nat} {G G' : Nat → Nat} {y : Nat → Nat} (hV : nv y n = V) (hi : i + n + 1 ≤ N) (hr : nv (fun j => G (i + j)) (n + 1) + V = 4294967296 ^ (n + 1) + r) (hb : BackIn G (ext y n) i N (n + 1) s G') :
    nv (fun j => G' (i + j)) (n + 1) = r := by
  have hs := hb.sum
  have ho := hb.owed
  rw [ext_nv, hV] at hs
  have hl : nv (fun j => G' (i + j)) (n + 1) < 4294967296 ^ (n + 1) := nv_lt fun j hj => hb.fits _ (by omega)
  generalize 4294967296 ^ (n + 1) = B at *
  have : s = 0 ∨ s = 1 := by omega
  rcases this with rfl | rfl <;> omega

theorem Knuth.done {A V N n L : Nat} {G Q : Nat → Nat} (h : Knuth A V N n L 0 G Q) (hn : n ≤ N) : nv Q L = A / V ∧ nv G N = A % V := by
  obtain ⟨h1, h2, h3, h4, h5, h6⟩ := h
  have e : nv G N = nv (fun j => G (0 + j)) n := by
    rw [nv_high_zero (m := n) hn (fun j hj hN => h5 j (by omega) hN)]
    exact nv_congr fun j _ => by rw [Nat.zero_add]
  rw [← e] at h4
  rw [← h6, Nat.mul_add_div (by omega), Nat.div_eq_of_lt h4, Nat.mul_add_mod, Nat.mod_eq_of_lt h4]
  exact ⟨rfl, rfl⟩

/-- the divisor's first bit is 1: the first window is below it -/
theorem Knuth.start {A V N n L : Nat} {G : Nat → Nat} (hG : Fits N G) (hN : N = L + n) (hA : nv G N = A) (hV : A < V * 4294967296 ^ L) : Knuth A V N n L L G (fun _ => 0) := by
  subst hN
  refine ⟨hG, fun _ _ => by omega, fun _ _ => rfl, ?_, fun j h1 h2 => by omega, by rw [nv_zeros]; omega⟩
  rw [nv_shift] at hA
  have h1 : 4294967296 ^ L * nv (fun j => G (L + j)) n < V * 4294967296 ^ L := by omega
  rw [Nat.mul_comm] at h1
  exact Nat.lt_of_mul_lt_mul_right h1
end Go.Proofs.YtopbfgmpilnghaaDoor

namespace Go.Proofs.YtopbfgmpilnghaaDoor
open Go.RowKit

/-- the guess as a number -/
def cap32 (q : Nat) : Nat := if q < 4294967296 then q else 4294967295
theorem cap32_spec (q : Nat) : cap32 q < 4294967296 ∧ cap32 q ≤ q ∧ ∀ Q, Q < 4294967296 → Q ≤ q → Q ≤ cap32 q := by
  unfold cap32
  split
  · exact ⟨by omega, by omega, fun Q _ h => h⟩
  · exact ⟨by omega, by omega, fun Q h _ => by omega⟩
def gd (t x0 y1 y0 : Nat) : Nat := cap32 ((t * 4294967296 + x0) / (y1 * 4294967296 + y0))
theorem gd_guessed {t x0 y1 y0 : Nat} (hy : 0 < y1) : Guessed t x0 y1 y0 (gd t x0 y1 y0) := by
  have hY : 0 < y1 * 4294967296 + y0 := by omega
  obtain ⟨h1, h2, h3⟩ := cap32_spec ((t * 4294967296 + x0) / (y1 * 4294967296 + y0))
  exact ⟨h1, (Nat.le_div_iff_mul_le hY).1 h2, fun Q hQ h => h3 Q hQ ((Nat.le_div_iff_mul_le hY).2 h)⟩
theorem Guessed.same {t x0 y1 y0 p q : Nat} (hp : Guessed t x0 y1 y0 p) (hq : Guessed t x0 y1 y0 q) : p = q := Nat.le_antisymm (hq.low p hp.lt hp.fits) (hp.low q hq.lt hq.fits)

theorem guess_gd {x2 x1 x0 y1 y0 : Nat} (h1 : x1 < 4294967296) (h0 : x0 < 4294967296) (hy : 2147483648 ≤ y1) (hy1 : y1 < 4294967296) (hx : x2 ≤ y1) (hy0 : y0 < 4294967296) (w : World) :
    Calls Tryd.prog 95 #[.int .u32 x2, .int .u32 x1, .int .u32 x0, .int .u32 y1, .int .u32 y0] w fun e w' =>
      e = .returned (.int .u64 (gd (x2 * 4294967296 + x1) x0 y1 y0)) ∧ ∃ m, w' = w.drewN m :=
  (guess_any h1 h0 hy hy1 hx hy0 w).mono fun e w' ⟨q, he, hg, hd⟩ => by
    rw [Guessed.same hg (gd_guessed (by omega))] at he
    exact ⟨he, hd⟩

/-- how far the divisor is shifted -/
theorem norm_shift {n : Nat} {f : Nat → Nat} (hn : 2 ≤ n) (hf : Fits n f) (h0 : Norm n f) : ∃ s : Nat, s ≤ 31 ∧ (s : Int) = 32 - (Lib.bitLen (f (n - 1)) : Int) ∧ limbs (nv f n * 2 ^ s) = n ∧ 2147483648 * 4294967296 ^ (n - 1) ≤ nv f n * 2 ^ s := by
  obtain ⟨m, rfl⟩ : ∃ m, n = m + 1 := ⟨n - 1, by omega⟩
  have ht := h0 (by omega)
  have hl := hf m (by omega)
  rw [Nat.add_sub_cancel] at ht ⊢
  obtain ⟨b1, b2, b3⟩ := Lib.bitLenAux_bounds 64 (f m) (Nat.lt_of_lt_of_le hl (by decide)) ht
  have b4 := Lib.bitLen_le (f m) 32 (by omega) hl
  change 1 ≤ Lib.bitLen (f m) at b1
  change 2 ^ (Lib.bitLen (f m) - 1) ≤ f m at b2
  change f m < 2 ^ Lib.bitLen (f m) at b3
  generalize Lib.bitLen (f m) = k at *
  have e1 : 2 ^ (k - 1) * 2 ^ (32 - k) = 2147483648 := by rw [← Nat.pow_add, show k - 1 + (32 - k) = 31 by omega]
  have e2 : 2 ^ k * 2 ^ (32 - k) = 4294967296 := by rw [← Nat.pow_add, show k + (32 - k) = 32 by omega]
  have hlo := nv_lt (hf.mono (Nat.le_succ m))
  have hlow : 2147483648 * 4294967296 ^ m ≤ nv f (m + 1) * 2 ^ (32 - k) := by
    simp only [nv]
    rw [← e1]
    have h1 : 2 ^ (k - 1) * 4294967296 ^ m ≤ f m * 4294967296 ^ m := Nat.mul_le_mul_right _ b2
    have h2 : 2 ^ (k - 1) * 4294967296 ^ m * 2 ^ (32 - k) ≤ (nv f m + f m * 4294967296 ^ m) * 2 ^ (32 - k) := Nat.mul_le_mul_right _ (by omega)
    calc 2 ^ (k - 1) * 2 ^ (32 - k) * 4294967296 ^ m = 2 ^ (k - 1) * 4294967296 ^ m * 2 ^ (32 - k) := by rw [Nat.mul_right_comm]
      _ ≤ _ := h2
  have hhi : nv f (m + 1) * 2 ^ (32 - k) < 4294967296 ^ (m + 1) := by
    simp only [nv]
    have h1 : (f m + 1) * 4294967296 ^ m ≤ 2 ^ k * 4294967296 ^ m := Nat.mul_le_mul_right _ b3
    rw [Nat.add_mul, Nat.one_mul] at h1
    have h2 : nv f m + f m * 4294967296 ^ m < 2 ^ k * 4294967296 ^ m := by omega
    have h3 := (Nat.mul_lt_mul_right (show 0 < 2 ^ (32 - k) from Nat.pow_pos (by omega))).2 h2
    calc _ < _ := h3
      _ = 4294967296 ^ (m + 1) := by rw [Nat.mul_right_comm, e2, Nat.pow_succ, Nat.mul_comm]
  refine ⟨32 - k, by omega, by omega, ?_, hlow⟩
  refine Nat.le_antisymm (limbs_le hhi) ?_
  apply Classical.byContradiction
  intro hne
  have h1 := lt_limbs (nv f (m + 1) * 2 ^ (32 - k))
  have h2 : 4294967296 ^ limbs (nv f (m + 1) * 2 ^ (32 - k)) ≤ 4294967296 ^ m := Nat.pow_le_pow_right (by omega) (by omega)
  have h3 : 1 * 4294967296 ^ m ≤ 2147483648 * 4294967296 ^ m := Nat.mul_le_mul_right _ (by omega)
  omega

/-- the first limb of the shifted divisor -/
theorem norm_top {n V : Nat} {y : Nat → Nat} (hn : 2 ≤ n) (hy : Fits n y) (hV : nv y n = V) (h : 2147483648 * 4294967296 ^ (n - 1) ≤ V) : 2147483648 ≤ y (n - 1) := by
  obtain ⟨m, rfl⟩ : ∃ m, n = m + 1 := ⟨n - 1, by omega⟩
  rw [Nat.add_sub_cancel] at *
  simp only [nv] at hV
  have hlo := nv_lt (hy.mono (Nat.le_succ m))
  apply Classical.byContradiction
  intro hne
  have h1 : (y m + 1) * 4294967296 ^ m ≤ 2147483648 * 4294967296 ^ m := Nat.mul_le_mul_right _ (by omega)
  rw [Nat.add_mul, Nat.one_mul] at h1
  omega

/-- the shifted number has at most one limb more -/
theorem norm_limbs {a s : Nat} (hs : s ≤ 31) : a * 2 ^ s < 2147483649 * 4294967296 ^ limbs a ∧ limbs (a * 2 ^ s) ≤ limbs a + 1 ∧ limbs a ≤ limbs (a * 2 ^ s) := by
  have h1 := lt_limbs a
  have h2 : 2 ^ s ≤ 2147483648 := (pow_le_31 (show s < 32 by omega)).2
  have h2' : 1 ≤ 2 ^ s := (pow_le_31 (show s < 32 by omega)).1
  have h3 : a * 2 ^ s ≤ 4294967296 ^ limbs a * 2147483648 := Nat.mul_le_mul (Nat.le_of_lt h1) h2
  have hp : 0 < 4294967296 ^ limbs a := Nat.pow_pos (by omega)
  refine ⟨by omega, limbs_le (by rw [Nat.pow_succ]; omega), limbs_mono ?_⟩
  have := Nat.mul_le_mul_left a h2'
  omega

/-- the first window is below the divisor -/
theorem norm_start {a V n s : Nat} (hs : s ≤ 31) (ha : n ≤ limbs a) (hn : 2 ≤ n) (hV : 2147483648 * 4294967296 ^ (n - 1) ≤ V) : a * 2 ^ s < V * 4294967296 ^ (limbs a + 1 - n) := by
  have h1 := lt_limbs a
  have h2 : 2 ^ s ≤ 2147483648 := (pow_le_31 (show s < 32 by omega)).2
  have h3 : a * 2 ^ s < 4294967296 ^ limbs a * 2147483648 := Nat.lt_of_lt_of_le ((Nat.mul_lt_mul_right (Nat.pow_pos (by omega))).2 h1) (Nat.mul_le_mul_left _ h2)
  refine Nat.lt_of_lt_of_le h3 ?_
  have h4 : 2147483648 * 4294967296 ^ (n - 1) * 4294967296 ^ (limbs a + 1 - n) ≤ V * 4294967296 ^ (limbs a + 1 - n) := Nat.mul_le_mul_right _ hV
  rw [Nat.mul_assoc, ← Nat.pow_add, show n - 1 + (limbs a + 1 - n) = limbs a by omega] at h4
  omega

theorem norm_back {a b s : Nat} : a * 2 ^ s / (b * 2 ^ s) = a / b ∧ a * 2 ^ s % (b * 2 ^ s) / 2 ^ s = a % b := by
  have hp : 0 < 2 ^ s := Nat.pow_pos (by omega)
  exact ⟨Nat.mul_div_mul_right _ _ hp, by rw [Nat.mul_mod_mul_right, Nat.mul_div_cancel _ hp]⟩
end Go.Proofs.YtopbfgmpilnghaaDoor

namespace Go.Proofs.YtopbfgmpilnghaaDoor
open Go.RowKit

theorem OwnNt.slice {base : Nat} {w : World} {v : Value} {a : Nat} (h : OwnNt base w v a) (h0 : 0 < limbs a) :
    ∃ g cap f, v = .slice (some ⟨g, 0, none⟩) (limbs a) cap ∧ base ≤ g ∧ limbs a ≤ cap ∧ cap ≤ maxLen ∧ w.ownsRow base 46 1 v (limbs a) (cellsOf .u32 (limbs a) f) ∧ Fits (limbs a) f ∧ nv f (limbs a) = a := by
  obtain ⟨f, h1, h2, h3⟩ := h
  rcases h1.2 with ⟨rfl, he⟩ | ⟨g, cap, cur, rfl, hb, hg, hn, hm, hs, ht⟩
  · omega
  · exact ⟨g, cap, f, rfl, hb, hn, hm, h1, h2, h3⟩

theorem owns_row {base : Nat} {w : World} {k : IntKind} {g n cap : Nat} {e : TypeId} {f : Nat → Nat} (h : w.ownsRow base e 1 (.slice (some ⟨g, 0, none⟩) n cap) n (cellsOf k n f)) : Row k w g e n f := by
  rcases h.2 with ⟨h, _⟩ | ⟨g', cap', cur, h, hb, hg, hn, hm, hs, ht⟩
  · cases h
  · cases h
    refine ⟨_, hg, ?_, fun j hj => ?_⟩
    · have := congrArg List.length ht
      rw [cellsOf_length, List.length_take] at this
      simp
      omega
    · have hq := cellsOf_get k n f j hj
      rw [← ht, List.getElem?_take] at hq
      split at hq
      · simpa using hq
      · cases hq

theorem owns_slice {base : Nat} {w : World} {n : Nat} {v : Value} {e : TypeId} {xs : List Value} (h : w.ownsRow base e 1 v n xs) (h0 : 0 < n) : ∃ g cap, v = .slice (some ⟨g, 0, none⟩) n cap ∧ base ≤ g ∧ n ≤ cap ∧ cap ≤ maxLen := by
  have hl := h.1
  rcases h.2 with ⟨rfl, he⟩ | ⟨g, cap, cur, rfl, hb, hg, hn, hm, hs, ht⟩
  · subst he
    simp at hl
    omega
  · exact ⟨g, cap, rfl, hb, hn, hm⟩
theorem cellsOf_ext (f : Nat → Nat) (n : Nat) : cellsOf .u32 (n + 1) (ext f n) = cellsOf .u32 n f ++ [.int .u32 0] := by
  rw [cellsOf_snoc, cellsOf_congr .u32 n (ext f n) f (fun j hj => by unfold ext; rw [if_pos hj]), show ext f n n = 0 by unfold ext; rw [if_neg (by omega)]]
  rfl
theorem ext_fits {f : Nat → Nat} {n : Nat} (h : Fits n f) : Fits (n + 1) (ext f n) := fun j _ => by
  unfold ext
  split
  · exact h j ‹_›
  · omega

theorem Row.rd {k : IntKind} {W : World} {g : Nat} {e : TypeId} {N : Nat} {f : Nat → Nat} (h : Row k W g e N f) {n c : Nat} (hn : n ≤ N) (hc : n ≤ c) (hm : c ≤ maxLen) : Rd k W (.slice (some ⟨g, 0, none⟩) n c) n f :=
  ⟨_, c, rfl, hc, hm, fun _ => ⟨g, 0, rfl, h.lt, fun j hj => by rw [Nat.zero_add]; exact h.cell (by omega)⟩⟩

theorem cmp_ge {a b : Nat} (h : b ≤ a) : ∃ c : Int, cmpI a b = c ∧ 0 ≤ c := by
  refine ⟨_, rfl, ?_⟩
  unfold cmpI
  rw [if_neg (by omega)]
  split <;> omega

set_option maxRecDepth 100000 in
set_option maxHeartbeats 8000000 in
theorem divmod_big {va vb : Value} {a b : Nat} {w : World} (na : Nt w va a) (nb : Nt w vb b) (la : limbs a ≤ 100000000) (hlb : 2 ≤ limbs b) (hab : b ≤ a) :
    Calls Tryd.prog 73 #[va, vb] w fun e w' => ∃ vq vr, e = .returned (.tuple #[vq, vr, .int .i64 0]) ∧ Nt w' vq (a / b) ∧ Nt w' vr (a % b) ∧ Below w.heap.size w w' := by
  obtain ⟨i0, hi, hz0, hz1, hz2⟩ := info_parts info_u32
  have hlab : limbs b ≤ limbs a := limbs_mono hab
  obtain ⟨aa, ca, fa, rfl, -⟩ := na.open
  obtain ⟨ab, cb, fb, rfl, rb, ftb, nmb, vb'⟩ := nb.open
  obtain ⟨s, hs, hsi, hVl, hVlow⟩ := norm_shift hlb ftb nmb
  rw [vb'] at hVl hVlow
  obtain ⟨bb, ob, rfl, hbb, hbc⟩ := rb.at (by omega)
  have hcell := hbc (limbs b - 1) (by omega)
  have hft := ftb (limbs b - 1) (by omega)
  have hXl := norm_limbs (a := a) hs
  have hst := Lib.hid (norm_start (a := a) (V := b * 2 ^ s) hs hlab hlb hVlow)
  obtain ⟨c, hc, hc0⟩ := cmp_ge hab
  have hb0 : ((limbs b : Nat) : Int) ≠ 0 := by omega
  have hb1 : (((limbs b : Nat) : Int) == 0) = false := by simp; omega
  have hb2 : (((limbs b : Nat) : Int) == 1) = false := by simp; omega
  have HVL := Lib.hid hVlow
  have HXL := Lib.hid hXl
  have HVl := Lib.hid hVl
  have HSI := Lib.hid hsi
  have HC := Lib.hid hc
  have hbck := Lib.hid hbc
  clear hVlow hXl hVl hsi hc hbc rb ftb nmb vb'
  go_enter Tryd.func73, Tryd.ntmps73
  go_wp2_with fail
  (with_reducible refine (cmp_nt na nb (by omega) (by omega)).mono ?_)
  rintro e w1 ⟨rfl, hd1⟩
  rw [HC.out]
  have hcell1 : w1.cell? ⟨bb, ob + (limbs b - 1), none⟩ = _ := (hd1.cell _).trans hcell
  replace na := na.below hd1.below
  replace nb := nb.below hd1.below
  have hz : w1.heap.size = w.heap.size := by rw [hd1.heap]
  have T1 : Hid (Below w.heap.size w w1) := hd1.below
  clear hcell hd1
  go_wp2_with fail
  (with_reducible refine (lead_any hft _).mono ?_)
  rintro e w2 ⟨rfl, rfl⟩
  rw [← HSI.out]
  go_wp2_with fail
  (with_reducible refine (shl_own nb (by omega) (by omega) s rfl).mono ?_)
  rintro e w3 ⟨y, rfl, hy, hb3⟩
  replace na := na.below hb3
  go_wp2_with fail
  (with_reducible refine (shl_own na (by omega) (by omega) s rfl).mono ?_)
  rintro e w4 ⟨x, rfl, hx, hb4⟩
  obtain ⟨gy, cy, fy, rfl, hgy, hcy, hcm, hoy, hfy, hvy⟩ := hy.slice (by rw [HVl.out]; omega)
  obtain ⟨gx, cx, fx, rfl, hgx, hcx, hcxm, hox, hfx, hvx⟩ := hx.slice (by have := HXL.out.2.2; omega)
  rw [HVl.out] at hoy hfy hvy hcy
  rw [HVl.out]
  have hNa := HXL.out.2.1
  have hNb := HXL.out.2.2
  have hyt := norm_top hlb hfy hvy HVL.out
  have hyr := Lib.hid (owns_row hoy)
  have hgy4 := hyr.out.lt
  have hzz := hb3.size
  have hz4 := hb4.size
  have HOX := Lib.hid hox
  have HFX : Hid (Fits (limbs (a * 2 ^ s)) fx ∧ nv fx (limbs (a * 2 ^ s)) = a * 2 ^ s) := ⟨hfx, hvx⟩
  have HY : Hid (Fits (limbs b) fy ∧ nv fy (limbs b) = b * 2 ^ s) := ⟨hfy, hvy⟩
  have HB4 := Lib.hid hb4
  have HB3 := Lib.hid hb3
  clear hox hfx hvx hfy hvy hy hx hoy hb4 hb3
  go_wp2_with fail
  generalize hX : a * 2 ^ s = X at *
  generalize hV : b * 2 ^ s = V at *
  have HX := Lib.hid hX
  have HV := Lib.hid hV
  have HN2 : Hid (limbs V = limbs b ∧ X < V * 4294967296 ^ (limbs a + 1 - limbs b)) := ⟨HVl.out, hst.out⟩
  clear hX hV hst HXL HVl HVL HSI HC
  generalize limbs a = m at *
  generalize limbs b = n at *
  generalize limbs X = N0 at *
  go_loopw [12] (fun v wr => ∃ (N g cap : Nat) (f : Nat → Nat), v = .slice (some ⟨g, 0, none⟩) N cap ∧ m ≤ N ∧ N ≤ m + 1 ∧ w3.heap.size ≤ g ∧ N ≤ cap ∧ cap ≤ maxLen ∧
      Hid (wr.ownsRow w3.heap.size 46 1 (.slice (some ⟨g, 0, none⟩) N cap) N (cellsOf .u32 N f)) ∧ Hid (Fits N f ∧ nv f N = X) ∧ Hid (Below w3.heap.size w3 wr))
    (fun v _ => match v with | .slice _ q _ => m + 1 - q | _ => 0)
  case atStart => exact ⟨N0, gx, cx, fx, rfl, hNb, hNa, hgx, hcx, hcxm, HOX, HFX, HB4⟩
  case round =>
    clear hNa hNb hgx hcx hcxm HOX HFX HB4
    obtain ⟨N, g, cap, f, rfl, hN1, hN2, hg, hcap, hcm2, hown, hf, hbw⟩ := hrel
    by_cases hle : N ≤ m
    · have hbs := hbw.out.size
      go_wp2_with (at_builtin; refine wpList_append_own _ rfl _ _ 22 rfl w3.heap.size 46 i0 (.int .u32 0) 1 4 Tryd.underlying22 hi hz0 hz1 hz2 rfl (by decide) _ _ _ rfl (hown.out.alloc _) ⟨wr.heap.size, 0, none⟩ 1 1 [.int .u32 0] rfl rfl ?c1 ?c2 ?c3 ?c4 ?c5 ?_)
      case c1 => exact cell_one_new _ _ _
      case c2 => simp [Value.oneCell']
      case c3 => unfold maxLen; omega
      case c4 => omega
      case c5 => simp; omega
      intro v5 w5 hown5 hg5 hnil5
      obtain ⟨g5, c5, rfl, hg5b, hc5, hm5⟩ := owns_slice hown5 (by omega)
      have hext : cellsOf .u32 (N + 1) (ext f N) = cellsOf .u32 N f ++ [.int .u32 0] := cellsOf_ext f N
      rw [← hext] at hown5
      have HO5 := Lib.hid hown5
      have HB5 : Hid (Below w3.heap.size w3 w5) := by
        refine Below.grown (hbw.out.alloc hbs _) hg5 (by simp; omega) (fun j e => ?_)
        simp [Value.ownBlock] at e
        omega
      have HF5 : Hid (Fits (N + 1) (ext f N) ∧ nv (ext f N) (N + 1) = X) := ⟨ext_fits hf.out.1, (ext_nv f N).trans hf.out.2⟩
      clear hown5 hg5 hnil5 hext hown hf hbw hbs
      go_wp2_with fail
      go_roundw
      case rel => exact ⟨N + 1, g5, c5, ext f N, rfl, by omega, by omega, hg5b, hc5, hm5, HO5, HF5, HB5⟩
      case measure => simp; omega
    · obtain rfl : N = m + 1 := by omega
      obtain ⟨L, hL⟩ : ∃ L, m + 1 - n = L := ⟨_, rfl⟩
      have hmn : m + 1 = L + n := by omega
      have hrow := Lib.hid (owns_row hown.out)
      have hk0 : Hid (Knuth X V (m + 1) n L L f (fun _ => 0)) := Knuth.start hf.out.1 hmn hf.out.2 (by rw [← hL]; exact HN2.out.2)
      have hln : IntKind.i64.wrap ((m : Int) + 1 - (n : Int)) = (L : Int) := by rw [show (m : Int) + 1 - (n : Int) = L by omega]; exact IntWalk.i64_in _ (by omega)
      have hln2 : (m : Int) + 1 - (n : Int) = (L : Int) := by omega
      have hls := hbw.out.size
      have HLN := Lib.hid hln2
      clear hle hf hown hln hln2
      go_wp2_with (at_make; refine wpList_make_row _ rfl _ _ 22 rfl 46 i0 .u32 Tryd.underlying22 hi hz0 hz1 _ _ _ _ L L rfl rfl (by have := HLN.out; omega) (by have := HLN.out; omega) (by omega) (by rw [hz2]; omega) (by omega) ?_; intro w6 hown6 hgrow6 hsz6)
      have HB6 : Hid (Below w3.heap.size w3 w6) := Below.grown hbw.out hgrow6 hls (fun k e => by cases e)
      have HG6 : Hid (Row .u32 w6 g 46 (L + n) f) := by
        rw [← hmn]
        exact hrow.out.same (hgrow6.block g hrow.out.lt (by simp))
      have HQ6 := Lib.hid hown6
      have hgq := hrow.out.lt
      have HK : Hid (Knuth X V (L + n) n L L f (fun _ => 0)) := by rw [← hmn]; exact hk0.out
      have hLm : L + n ≤ 100000001 := by omega
      clear hown6 hgrow6 hsz6 hrow hk0 hbw hls HLN hL
      generalize wr.heap.size = gq at *
      have hyn : 2147483648 ≤ fy (n - 1) := hyt
      have hcapL : L + n ≤ cap := by omega
      clear hmn hN1 hN2 la hcap
      go_loopw [15] (fun iv wr2 => ∃ (k : Nat) (G Q : Nat → Nat), k ≤ L ∧ iv = .int .i64 ((k : Int) - 1) ∧ Hid (Row .u32 wr2 g 46 (L + n) G) ∧ Hid (Own .u32 wr2 gq 46 L Q) ∧ Hid (Knuth X V (L + n) n L k G Q) ∧ Hid (Below w3.heap.size w3 wr2)) (fun iv _ => (intOf iv + 1).toNat)
      case atStart => exact ⟨L, f, _, Nat.le_refl _, rfl, HG6, HQ6, HK, HB6⟩
      case round =>
        clear HG6 HQ6 HK HB6
        obtain ⟨k, G, Q, hk, rfl, hG, hQ, hkn, hbw⟩ := hrel
        by_cases hk0 : k = 0
        · subst hk0
          obtain ⟨kq, kr⟩ := hkn.out.done (by omega)
          have hbs := hbw.out.size
          go_wp2_with fail
          (with_reducible refine (make_nt (hQ.out.rd (Nat.le_refl _) (Nat.le_refl _) (by unfold maxLen; omega)) (by omega) hkn.out.fitq).mono ?_)
          rintro e w7 ⟨vq, rfl, hvq, hb7⟩
          rw [kq] at hvq
          have hG7 := Lib.hid (hG.out.same (hb7.block g hG.out.lt))
          have HB7 : Hid (Below w3.heap.size w3 w7) := hbw.out.trans (hb7.mono hbs)
          clear hG hQ hb7 hbw hbs
          go_wp2_with fail
          (with_reducible refine (make_nt (hG7.out.rd (Nat.le_refl _) hcapL hcm2) (by omega) hkn.out.fits).mono ?_)
          rintro e w8 ⟨vr, rfl, hvr, hb8⟩
          rw [kr] at hvr
          replace hvq := hvq.below hb8
          have HB8 : Hid (Below w3.heap.size w3 w8) := HB7.out.trans (hb8.mono HB7.out.size)
          clear hG7 HB7 hb8
          have hlr : limbs (X % V) ≤ 536870912 := by
            have h1 := nv_lt hkn.out.fits
            rw [kr] at h1
            have := limbs_le h1
            omega
          go_wp2_with fail
          (with_reducible refine (shr_int hvr hlr _ s rfl (by omega)).mono ?_)
          rintro e w9 ⟨vs, rfl, hvs, hb9⟩
          replace hvq := hvq.below hb9
          have HB9 : Hid (Below w3.heap.size w3 w9) := HB8.out.trans (hb9.mono HB8.out.size)
          have HVQ := Lib.hid hvq
          have HVS := Lib.hid hvs
          clear HB8 hb9 hvr hlr hvq hvs kq kr
          go_wp2_with fail
          refine bodyPost_ret (v := .tuple #[vq, vs, .int .i64 0]) (by simp [results, Tryd.f73]) rfl ?_
          obtain ⟨e1, e2⟩ := norm_back (a := a) (b := b) (s := s)
          rw [HX.out, HV.out] at e1 e2
          refine ⟨vq, vs, rfl, by rw [← e1]; exact HVQ.out, by rw [← e2]; exact HVS.out, ?_⟩
          exact (T1.out.trans (HB3.out.mono (by omega))).trans (HB9.out.mono (by omega))
        · obtain ⟨i, rfl⟩ : ∃ i, k = i + 1 := ⟨k - 1, by omega⟩
          have hi1 : (((i + 1 : Nat) : Int) - 1) = (i : Int) := by omega
          rw [hi1]
          have l1 := hG.out.cell (j := i + n) (by omega)
          have l2 := hG.out.cell (j := i + n - 1) (by omega)
          have l3 := hG.out.cell (j := i + n - 2) (by omega)
          have hyb : ∀ j, j < n → wr.cell? ⟨gy, j, none⟩ = some (.int .u32 (fy j)) := fun j hj => (hbw.out.cell (p := ⟨gy, j, none⟩) hgy4).trans (hyr.out.cell hj)
          have l4 := hyb (n - 1) (by omega)
          have l5 := hyb (n - 2) (by omega)
          have HYB := Lib.hid hyb
          have s1 : IntKind.i64.wrap ((i : Int) + (n : Int)) = (i : Int) + (n : Int) := IntWalk.i64_in _ (by omega)
          have s2 : ((i : Int) + (n : Int)).toNat = i + n := by omega
          have s3 : IntKind.i64.wrap ((i : Int) + (n : Int) - 1) = (i : Int) + (n : Int) - 1 := IntWalk.i64_in _ (by omega)
          have s4 : ((i : Int) + (n : Int) - 1).toNat = i + n - 1 := by omega
          have s5 : IntKind.i64.wrap ((i : Int) + (n : Int) - 2) = (i : Int) + (n : Int) - 2 := IntWalk.i64_in _ (by omega)
          have s6 : ((i : Int) + (n : Int) - 2).toNat = i + n - 2 := by omega
          have s7 : IntKind.i64.wrap ((n : Int) - 1) = (n : Int) - 1 := IntWalk.i64_in _ (by omega)
          have s8 : ((n : Int) - 1).toNat = n - 1 := by omega
          have s9 : IntKind.i64.wrap ((n : Int) - 2) = (n : Int) - 2 := IntWalk.i64_in _ (by omega)
          have s10 : ((n : Int) - 2).toNat = n - 2 := by omega
          have b1 : (0 : Int) ≤ (i : Int) + (n : Int) - 2 := by omega
          have b2 : (i : Int) + (n : Int) < ((L + n : Nat) : Int) := by omega
          have b3 : (0 : Int) ≤ (n : Int) - 2 := by omega
          have b1' : (0 : Int) ≤ (i : Int) + (n : Int) - 1 := by omega
          have b2' : (i : Int) + (n : Int) - 1 < ((L + n : Nat) : Int) := by omega
          have b2'' : (i : Int) + (n : Int) - 2 < ((L + n : Nat) : Int) := by omega
          have b3' : (0 : Int) ≤ (n : Int) - 1 := by omega
          have b4 : (n : Int) - 1 < (n : Int) := by omega
          have b5 : (n : Int) - 2 < (n : Int) := by omega
          have b6 : (0 : Int) ≤ (i : Int) + (n : Int) := by omega
          have f1 := hkn.out.fits (i + n) (by omega)
          have f2 := hkn.out.fits (i + n - 1) (by omega)
          have f3 := hkn.out.fits (i + n - 2) (by omega)
          have f4 := HY.out.1 (n - 1) (by omega)
          have f5 := HY.out.1 (n - 2) (by omega)
          have htop := hkn.out.top (y := fy) HY.out.1 HY.out.2 (by omega) (by omega)
          have HGD := Lib.hid (fun w' => guess_gd f2 f3 hyn f4 htop f5 w')
          have hgg : Hid (Guessed (G (i + n) * 4294967296 + G (i + n - 1)) (G (i + n - 2)) (fy (n - 1)) (fy (n - 2)) (gd (G (i + n) * 4294967296 + G (i + n - 1)) (G (i + n - 2)) (fy (n - 1)) (fy (n - 2)))) := gd_guessed (by omega)
          clear hyb hi1 f1 f2 f3 f4 f5 htop
          generalize gd (G (i + n) * 4294967296 + G (i + n - 1)) (G (i + n - 2)) (fy (n - 1)) (fy (n - 2)) = q at *
          go_wp2_with fail
          go_quiet ((go_at_call 95; exact Calls.quiet_of (HGD.out _)))
          clear s1 s2 s3 s4 s5 s6 s7 s8 s9 s10 b1 b2 b3 b1' b2' b2'' b3' b4 b5 b6 l1 l2 l3 l4 l5 HGD
          go_wp2_with fail
          have HTK := Lib.hid (fun w' cx cy (h1 : Row .u32 w' g 46 (L + n) G) (h2 : ∀ j, j < n → w'.cell? ⟨gy, 0 + j, none⟩ = some (.int .u32 (fy j))) (h3 : gy < w'.heap.size) => take_any (g := g) (off := i) (m := n) (N := L + n) (bb := gy) (ob := 0) (cx := cx) (cb := cy) (q := q) (F := G) (fb := fy) (w := w') (by omega) hgg.out.lt (by show i + n + 1 ≤ L + n; omega) h1 hkn.out.fits HY.out.1 ⟨h3, by omega⟩ h2)
          have hbn : Hid (Below w3.heap.size w3 (wr.drewN nq)) := hbw.out.trans (Drawn.below ⟨nq, rfl⟩)
          have hGn : Hid (Row .u32 (wr.drewN nq) g 46 (L + n) G) := hG.out.same rfl
          have hQn : Hid (Own .u32 (wr.drewN nq) gq 46 L Q) := hQ.out.same rfl
          clear hbw hG hQ
          rw [show i + n + 1 - i = n + 1 by omega]
          generalize wr.drewN nq = W5 at *
          have hyb : ∀ W, Below w3.heap.size w3 W → ∀ j, j < n → W.cell? ⟨gy, 0 + j, none⟩ = some (.int .u32 (fy j)) := fun W h j hj => by rw [Nat.zero_add]; exact (h.cell (p := ⟨gy, j, none⟩) hgy4).trans (hyr.out.cell hj)
          have HYB2 := Lib.hid hyb
          clear hyb HYB
          have hgyW := Nat.lt_of_lt_of_le hgy4 hbn.out.size
          (with_reducible refine (HTK.out _ _ _ hGn.out (HYB2.out _ hbn.out) hgyW).mono ?_)
          rintro e w7 ⟨t, G1, rfl, hr7, ht7, ho7⟩
          have hb7 : Hid (Below w3.heap.size w3 w7) := Only.below hbn.out ho7 hg (Nat.le_refl _)
          have hr7' := Lib.hid hr7
          have hQ7 : Hid (Own .u32 w7 gq 46 L Q) := hQn.out.same (ho7.block gq hQn.out.lt (by omega))
          have htook := hkn.out.took (by omega) hlb HY.out.1 HY.out.2 hyn hgg.out ht7
          have hfit7 := Lib.hid ht7.fits
          have helse : Hid (∀ j, j < i ∨ i + (n + 1) ≤ j → G1 j = G j) := ht7.else'
          have hVlt : Hid (V < 4294967296 ^ n) := by have := nv_lt HY.out.1; rw [HY.out.2] at this; exact this
          have hql := hgg.out.lt
          clear hr7 ht7 ho7 hGn hQn hbn HTK hgg
          rcases htook with ⟨rfl, hw1, hw2⟩ | ⟨rfl, hq0, r, hr1, hr2, hr3⟩
          · have hnew : Hid (Knuth X V (L + n) n L i G1 (upd Q i q)) := hkn.out.put (by omega) (by omega) hfit7.out hql helse.out hw1 hw2 hVlt.out
            have hdd : decide (0 < 0) = false := rfl
            have hcq := hQ7.out.cell (j := i) (by omega)
            have hfq := hQ7.out.free i
            clear hw1 hw2 helse hfit7 hkn hVlt
            go_wp2_with fail
            go_roundw
            case rel => exact ⟨i, G1, upd Q i q, by omega, by go_num, hr7'.out.same (Below.heap_setCell _ _ _ _ (by simp; omega)), hQ7.out.put i q rfl, hnew.out, Below.setCell hb7.out (by simp; omega) _⟩
            case measure => simp [intOf] <;> omega
          · have hdd : decide (0 < 1) = true := rfl
            have hcq := hQ7.out.cell (j := i) (by omega)
            have hfq := hQ7.out.free i
            have hgyW7 := Nat.lt_of_lt_of_le hgy4 hb7.out.size
            have HBK := Lib.hid (fun cx cy => back_any (g := g) (off := i) (m := n) (N := L + n) (bb := gy) (ob := 0) (cx := cx) (cb := cy) (F := G1) (fb := fy) (w := w7) (by omega) (by show i + n + 1 ≤ L + n; omega) hr7'.out hfit7.out HY.out.1 ⟨hgyW7, by omega⟩ (HYB2.out _ hb7.out))
            have HR1 := Lib.hid hr1
            have HR2 := Lib.hid hr2
            have HR3 := Lib.hid hr3
            clear hr1 hr2 hr3
            go_wp2_with fail
            rw [show i + n + 1 - i = n + 1 by omega]
            (with_reducible refine (HBK.out _ _).mono ?_)
            rintro e w8 ⟨s8, G2, rfl, hr8, hb8, ho8⟩
            have hwin := Knuth.gave HY.out.2 (by omega) HR3.out hb8
            have hnew : Hid (Knuth X V (L + n) n L i G2 (upd Q i (q - 1))) := by
              refine hkn.out.put (by omega) (by omega) hb8.fits (by omega) (fun j hj => ?_) ?_ (by rw [hwin]; exact HR1.out) hVlt.out
              · rw [hb8.else' j hj]; exact helse.out j hj
              · rw [hwin]; exact HR2.out
            have hb8' : Hid (Below w3.heap.size w3 w8) := Only.below hb7.out ho8 hg (Nat.le_refl _)
            have hr8' := Lib.hid hr8
            have hQ8 : Hid (Own .u32 w8 gq 46 L Q) := hQ7.out.same (ho8.block gq hQ7.out.lt (by omega))
            have hcq8 := hQ8.out.cell (j := i) (by omega)
            have hfq8 := hQ8.out.free i
            have hq1 : (q : Int) - 1 = ((q - 1 : Nat) : Int) := by omega
            rw [hq1]
            have hq2 : q - 1 < 4294967296 := by omega
            have HQ1 := Lib.hid hq1
            clear hwin hr8 hb8 ho8 hq1 hcq hfq HBK HR1 HR2 HR3 helse hfit7 hkn hVlt hQ7 hr7'
            go_wp2_with fail
            go_roundw
            case rel => exact ⟨i, G2, upd Q i (q - 1), by omega, by go_num, hr8'.out.same (Below.heap_setCell _ _ _ _ (by simp; omega)), hQ8.out.put i (q - 1) (by first | rfl | omega), hnew.out, Below.setCell hb8'.out (by simp; omega) _⟩
            case measure => simp [intOf] <;> omega
end Go.Proofs.YtopbfgmpilnghaaDoor

namespace Go.Proofs.YtopbfgmpilnghaaDoor
open Go.RowKit

set_option maxRecDepth 100000 in
set_option maxHeartbeats 2000000 in
theorem divmod_zero {va : Value} {ab : Option Addr} {cb : Nat} {w : World} :
    Calls Tryd.prog 73 #[va, .slice ab 0 cb] w fun e w' => e = .returned (.tuple #[.slice none 0 0, .slice none 0 0, .int .i64 3]) ∧ w = w' := by
  go_enter Tryd.func73, Tryd.ntmps73
  go_wp2_with fail
  refine bodyPost_ret (v := .tuple #[.slice none 0 0, .slice none 0 0, .int .i64 3]) (by simp [results, Tryd.f73]) rfl ?_
  exact ⟨rfl, rfl⟩

set_option maxRecDepth 100000 in
set_option maxHeartbeats 2000000 in
theorem divmod_less {va vb : Value} {a b : Nat} {w : World} (na : Nt w va a) (nb : Nt w vb b) (lb : limbs b ≤ 100000000) (hab : a < b) :
    Calls Tryd.prog 73 #[va, vb] w fun e w' => e = .returned (.tuple #[.slice none 0 0, va, .int .i64 0]) ∧ Below w.heap.size w w' := by
  have la : limbs a ≤ 100000000 := Nat.le_trans (limbs_mono (Nat.le_of_lt hab)) lb
  have hb0 := limbs_pos (show b ≠ 0 by omega)
  obtain ⟨ab, cb, fb, rfl, -⟩ := nb.open
  have hb1 : (((limbs b : Nat) : Int) == 0) = false := by simp; omega
  have hc := cmp_less hab
  have HC := Lib.hid hc
  clear hc
  go_enter Tryd.func73, Tryd.ntmps73
  go_wp2_with fail
  (with_reducible refine (cmp_nt na nb (by omega) (by omega)).mono ?_)
  rintro e w1 ⟨rfl, hd1⟩
  rw [HC.out]
  have T1 : Hid (Below w.heap.size w w1) := hd1.below
  clear na nb hd1
  go_wp2_with fail
  refine bodyPost_ret (v := .tuple #[.slice none 0 0, va, .int .i64 0]) (by simp [results, Tryd.f73]) rfl ?_
  exact ⟨rfl, T1.out⟩

theorem one_row {w : World} {e : TypeId} (x : Nat) : Rd .u32 (w.alloc (.cells #[.int .u32 x] e)) (.slice (some ⟨w.heap.size, 0, none⟩) 1 1) 1 (fun _ => x) :=
  Rd.new (by unfold maxLen; omega) (fun j hj => by rw [show j = 0 by omega]; rfl)

set_option maxRecDepth 100000 in
set_option maxHeartbeats 2000000 in
theorem divmod_one {va vb : Value} {a b : Nat} {w : World} (na : Nt w va a) (nb : Nt w vb b) (la : limbs a ≤ 100000000) (hlb : limbs b = 1) (hab : b ≤ a) :
    Calls Tryd.prog 73 #[va, vb] w fun e w' => ∃ vq vr, e = .returned (.tuple #[vq, vr, .int .i64 0]) ∧ Nt w' vq (a / b) ∧ Nt w' vr (a % b) ∧ Below w.heap.size w w' := by
  obtain ⟨c, hc, hc0⟩ := cmp_ge hab
  have hcm := cmp_nt na nb (by omega) (by omega)
  obtain ⟨aa, ca, fa, rfl, ra, fta, -, va'⟩ := na.open
  obtain ⟨ab, cb, fb, rfl, rb, ftb, nmb, vb'⟩ := nb.open
  rw [hlb] at rb ftb nmb vb' hcm ⊢
  rw [hc] at hcm
  have HCM := Lib.hid hcm
  clear hcm
  obtain rfl : fb 0 = b := by simpa [nv] using vb'
  have hlab : 1 ≤ limbs a := by rw [← hlb]; exact limbs_mono hab
  obtain ⟨bb, ob, rfl, hbb, hbc⟩ := rb.at (by omega)
  obtain ⟨ba, oa, rfl, hba, hac⟩ := ra.at (by omega)
  have hcell := hbc 0 (by omega)
  have hft := ftb 0 (by omega)
  have hne := nmb (by omega)
  simp only [Nat.add_zero, Nat.sub_self] at hcell hne
  have HF := Lib.hid fta
  have HA := Lib.hid hac
  have HV := Lib.hid va'
  clear hc fta hac va' ra na nb rb hbc ftb nmb vb'
  generalize fb 0 = d at *
  clear fb
  go_enter Tryd.func73, Tryd.ntmps73
  go_wp2_with fail
  (with_reducible refine HCM.out.mono ?_)
  rintro e w1 ⟨rfl, hd1⟩
  have hcell1 : w1.cell? ⟨bb, ob, none⟩ = _ := (hd1.cell _).trans hcell
  have HA1 : Hid (∀ j, j < limbs a → w1.cell? ⟨ba, oa + j, none⟩ = some (.int .u32 (fa j))) := fun j hj => (hd1.cell _).trans (HA.out j hj)
  have T1 : Hid (Below w.heap.size w w1) := hd1.below
  have hz : w1.heap.size = w.heap.size := by rw [hd1.heap]
  clear hd1 hcell HA HCM
  go_wp2_with fail
  (with_reducible refine (small_row (by omega) (by omega) (by omega) hft HF (show Hid (ba < w1.heap.size) from by unfold Hid; omega) HA1).mono ?_)
  rintro e w2 ⟨vq, rfl, hvq, hb2⟩
  rw [HV.out] at hvq ⊢
  have hr : a % d < 4294967296 := Nat.lt_of_lt_of_le (Nat.mod_lt _ (by omega)) (by omega)
  generalize hre : a % d = r at *
  have HRE := Lib.hid hre
  clear hre
  go_wp2_with fail
  have hfit : Fits 1 (fun _ => r) := fun _ _ => hr
  (with_reducible refine (make_nt (one_row r) (by omega) hfit).mono ?_)
  rintro e w3 ⟨vr, rfl, hvr, hb3⟩
  have e1 : nv (fun _ => r) 1 = r := by simp [nv]
  rw [e1] at hvr
  have HVQ : Hid (Nt w3 vq (a / d)) := hvq.below (After.t (After.alloc (After.refl w2) _) hb3)
  have HB : Hid (Below w.heap.size w w3) := T1.out.trans ((After.t (After.t hb2 (After.alloc (After.refl w2) _)) hb3).mono (by omega))
  have HVR := Lib.hid hvr
  clear e1 hvr hvq hb2 hb3 T1 HA1
  go_wp2_with fail
  refine bodyPost_ret (v := .tuple #[vq, vr, .int .i64 0]) (by simp [results, Tryd.f73]) rfl ?_
  exact ⟨vq, vr, rfl, HVQ.out, by rw [HRE.out]; exact HVR.out, HB.out⟩

/-- div.DivMod: the quotient and the rest. -/
theorem divmod_nt {va vb : Value} {a b : Nat} {w : World} (na : Nt w va a) (nb : Nt w vb b) (la : limbs a ≤ 100000000) (lb : limbs b ≤ 100000000) (hb : b ≠ 0) :
    Calls Tryd.prog 73 #[va, vb] w fun e w' => ∃ vq vr, e = .returned (.tuple #[vq, vr, .int .i64 0]) ∧ Nt w' vq (a / b) ∧ Nt w' vr (a % b) ∧ Below w.heap.size w w' := by
  by_cases hab : b ≤ a
  · have := limbs_pos hb
    by_cases h1 : limbs b = 1
    · exact divmod_one na nb la h1 hab
    · exact divmod_big na nb la (by omega) hab
  · refine (divmod_less na nb lb (by omega)).mono fun e w' ⟨he, hbl⟩ => ?_
    exact ⟨_, _, he, by rw [Nat.div_eq_of_lt (by omega)]; exact Nt.nil _, by rw [Nat.mod_eq_of_lt (by omega)]; exact na.below hbl, hbl⟩
theorem divmod_none {va vb : Value} {w : World} (nb : Nt w vb 0) :
    Calls Tryd.prog 73 #[va, vb] w fun e w' => e = .returned (.tuple #[.slice none 0 0, .slice none 0 0, .int .i64 3]) ∧ w = w' := by
  obtain ⟨ab, cb, fb, rfl, -⟩ := nb.open
  exact divmod_zero
end Go.Proofs.YtopbfgmpilnghaaDoor
