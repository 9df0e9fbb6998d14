/- The plain law of div.DivMod: one limb of a quotient after the other, from above. No function of the program stands here. -/
import Derived.Test.YtopbfgmpilnghaaDoorSmall
set_option linter.unusedVariables false
set_option linter.unusedSimpArgs false
namespace Go.Proofs.YtopbfgmpilnghaaDoor
open Go.RowKit

/-- the limbs from k on of the quotient Q are known; G is what is left of A -/
structure Knuth (A V N n L k : Nat) (G Q : Nat → Nat) : Prop where
  fits : Fits N G
  fitq : Fits L Q
  zero : ∀ j, j < k → Q j = 0
  win : nv (fun j => G (k + j)) n < V
  high : ∀ j, k + n ≤ j → j < N → G j = 0
  sum : V * nv Q L + nv G N = A

theorem nv_all_zero {f : Nat → Nat} {n : Nat} (h : ∀ j, j < n → f j = 0) : nv f n = 0 := by
  rw [nv_high_zero (m := 0) (Nat.zero_le _) (fun j _ hj => h j hj)]; rfl

/-- three limbs on top, and the others -/
theorem nv_top3 {f : Nat → Nat} {m : Nat} (hf : Fits (m + 3) f) : ∃ r, r < 4294967296 ^ m ∧ nv f (m + 3) = ((f (m + 2) * 4294967296 + f (m + 1)) * 4294967296 + f m) * 4294967296 ^ m + r := by
  refine ⟨nv f m, nv_lt (hf.mono (by omega)), ?_⟩
  simp only [nv, Nat.pow_succ]
  generalize 4294967296 ^ m = P
  grind
theorem nv_top2 {f : Nat → Nat} {m : Nat} (hf : Fits (m + 2) f) : ∃ r, r < 4294967296 ^ m ∧ nv f (m + 2) = (f (m + 1) * 4294967296 + f m) * 4294967296 ^ m + r := by
  refine ⟨nv f m, nv_lt (hf.mono (by omega)), ?_⟩
  simp only [nv, Nat.pow_succ]
  generalize 4294967296 ^ m = P
  grind

/-- the guess is right, or one too great -/
theorem guess_near {m T V g q : Nat} {t x0 y1 y0 r1 r2 : Nat} (hT : T = (t * 4294967296 + x0) * 4294967296 ^ m + r1) (hV : V = (y1 * 4294967296 + y0) * 4294967296 ^ m + r2) (h1 : r1 < 4294967296 ^ m) (h2 : r2 < 4294967296 ^ m)
    (hy : 1 ≤ y1) (hg : Guessed t x0 y1 y0 g) (hq : q = T / V) (hTV : T < V * 4294967296) : q ≤ g ∧ g ≤ q + 1 ∧ q < 4294967296 := by
  obtain ⟨hl, hf, hlow⟩ := hg
  have hP : 0 < 4294967296 ^ m := Nat.pow_pos (by omega)
  generalize 4294967296 ^ m = P at *
  have hV0 : 0 < V := by
    have : 1 * P ≤ (y1 * 4294967296 + y0) * P := Nat.mul_le_mul_right _ (by omega)
    omega
  have hq1 : q < 4294967296 := by rw [hq, Nat.div_lt_iff_lt_mul hV0, Nat.mul_comm]; exact hTV
  refine ⟨hlow q hq1 ?_, ?_, hq1⟩
  · have hqV : q * V ≤ T := by rw [hq]; exact Nat.div_mul_le_self T V
    have h3 : q * ((y1 * 4294967296 + y0) * P) ≤ q * V := Nat.mul_le_mul_left _ (by omega)
    have h4 : q * (y1 * 4294967296 + y0) * P < (t * 4294967296 + x0 + 1) * P := by
      rw [Nat.mul_assoc, Nat.add_mul (t * 4294967296 + x0) 1 P, Nat.one_mul]; omega
    have := Nat.lt_of_mul_lt_mul_right h4
    omega
  · rcases Nat.eq_zero_or_pos g with rfl | hg0
    · omega
    obtain ⟨p, rfl⟩ : ∃ p, g = p + 1 := ⟨g - 1, by omega⟩
    have h5 : p * V ≤ T := by
      have e1 : (p + 1) * (y1 * 4294967296 + y0) * P ≤ (t * 4294967296 + x0) * P := Nat.mul_le_mul_right _ hf
      have e2 : (p + 1) * V = (p + 1) * (y1 * 4294967296 + y0) * P + (p + 1) * r2 := by rw [hV, Nat.mul_add, Nat.mul_assoc]
      have e3 : (p + 1) * r2 ≤ 4294967296 * P := Nat.mul_le_mul (by omega) (by omega)
      have e4 : 4294967296 * P ≤ V := by
        rw [hV]
        have : 4294967296 * P ≤ (y1 * 4294967296 + y0) * P := Nat.mul_le_mul_right _ (by omega)
        omega
      have e5 : (p + 1) * V = p * V + V := by rw [Nat.add_mul, Nat.one_mul]
      omega
    have : p ≤ q := by rw [hq, Nat.le_div_iff_mul_le hV0]; exact h5
    omega

theorem win_cut {f : Nat → Nat} {N i m : Nat} (h : i + m ≤ N) : nv f N = nv f i + 4294967296 ^ i * (nv (fun j => f (i + j)) m + 4294967296 ^ m * nv (fun j => f (i + m + j)) (N - (i + m))) := by
  obtain ⟨d, rfl⟩ : ∃ d, N = i + (m + d) := ⟨N - (i + m), by omega⟩
  rw [nv_shift f i (m + d), nv_shift (fun j => f (i + j)) m d]
  rw [show i + (m + d) - (i + m) = d by omega, show (fun j => f (i + m + j)) = (fun j => f (i + (m + j))) from funext fun j => by rw [Nat.add_assoc]]

theorem win_swap {f g : Nat → Nat} {N i m : Nat} (h : i + m ≤ N) (hfg : ∀ j, j < i ∨ i + m ≤ j → g j = f j) : nv g N + 4294967296 ^ i * nv (fun j => f (i + j)) m = nv f N + 4294967296 ^ i * nv (fun j => g (i + j)) m := by
  rw [win_cut (f := f) h, win_cut (f := g) h, nv_congr (f := g) (g := f) (n := i) (fun j hj => hfg j (.inl hj)),
    nv_congr (f := fun j => g (i + m + j)) (g := fun j => f (i + m + j)) (fun j _ => hfg _ (.inr (by omega)))]
  simp only [Nat.mul_add]
  omega

/-- what the window is worth, one limb lower -/
theorem Knuth.next {A V N n L i : Nat} {G Q : Nat → Nat} (h : Knuth A V N n L (i + 1) G Q) (hi : i + n + 1 ≤ N) : nv (fun j => G (i + j)) (n + 1) < V * 4294967296 := by
  have hw := h.win
  have e : nv (fun j => G (i + j)) (n + 1) = G i + 4294967296 * nv (fun j => G (i + 1 + j)) n := by
    rw [Nat.add_comm n 1, nv_shift (fun j => G (i + j)) 1 n]
    simp only [nv, Nat.pow_one, Nat.pow_zero, Nat.mul_one, Nat.add_zero, Nat.zero_add]
    rw [show (fun j => G (i + (1 + j))) = (fun j => G (i + 1 + j)) from funext fun j => by rw [Nat.add_assoc]]
  rw [e]
  have := h.fits i (by omega)
  have h2 : (nv (fun j => G (i + 1 + j)) n + 1) * 4294967296 ≤ V * 4294967296 := Nat.mul_le_mul_right _ hw
  rw [Nat.add_mul] at h2
  rw [Nat.mul_comm 4294967296]
  omega

/-- the first limb of the window is not above the divisor's -/
theorem Knuth.top {A V N n L i : Nat} {G Q y : Nat → Nat} (h : Knuth A V N n L (i + 1) G Q) (hy : Fits n y) (hV : nv y n = V) (hn : 2 ≤ n) (hi : i + n + 1 ≤ N) : G (i + n) ≤ y (n - 1) := by
  obtain ⟨m, rfl⟩ : ∃ m, n = m + 1 := ⟨n - 1, by omega⟩
  have hw := h.win
  rw [Nat.add_sub_cancel]
  simp only [nv] at hV hw
  rw [show i + 1 + m = i + (m + 1) by omega] at hw
  have hlo := nv_lt (hy.mono (Nat.le_succ m))
  apply Classical.byContradiction
  intro hne
  have h1 : (y m + 1) * 4294967296 ^ m ≤ G (i + (m + 1)) * 4294967296 ^ m := Nat.mul_le_mul_right _ (by omega)
  rw [Nat.add_mul, Nat.one_mul] at h1
  omega

/-- one limb more -/
theorem Knuth.put {A V N n L i q : Nat} {G G' Q : Nat → Nat} (h : Knuth A V N n L (i + 1) G Q) (hi : i + n + 1 ≤ N) (hL : i < L) (hG : Fits N G') (hq : q < 4294967296) (he : ∀ j, j < i ∨ i + (n + 1) ≤ j → G' j = G j)
    (hv : nv (fun j => G (i + j)) (n + 1) = q * V + nv (fun j => G' (i + j)) (n + 1)) (hw : nv (fun j => G' (i + j)) (n + 1) < V) (hV : V < 4294967296 ^ n) : Knuth A V N n L i G' (upd Q i q) := by
  obtain ⟨h1, h2, h3, h4, h5, h6⟩ := h
  have hFw : Fits (n + 1) (fun j => G' (i + j)) := fun j hj => hG _ (by omega)
  have htop : G' (i + n) = 0 := by
    apply Classical.byContradiction
    intro hne
    simp only [nv] at hw
    have : 1 * 4294967296 ^ n ≤ G' (i + n) * 4294967296 ^ n := Nat.mul_le_mul_right _ (by omega)
    omega
  refine ⟨hG, h2.upd _ hq, fun j hj => by rw [upd_other _ _ (by omega)]; exact h3 j (by omega), ?_, fun j hj hn => ?_, ?_⟩
  · simp only [nv] at hw
    omega
  · by_cases e : j = i + n
    · rw [e]; exact htop
    · rw [he j (.inr (by omega))]; exact h5 j (by omega) hn
  · have e1 := nv_upd Q i q L hL
    rw [h3 i (by omega), Nat.zero_mul, Nat.add_zero] at e1
    have e2 := win_swap (f := G) (g := G') (N := N) (i := i) (m := n + 1) (by omega) he
    rw [hv] at e2
    rw [e1, Nat.mul_add, ← h6]
    generalize 4294967296 ^ i = P at *
    rw [Nat.mul_add P] at e2
    have e3 : P * (q * V) = V * (q * P) := by rw [Nat.mul_comm q V, Nat.mul_left_comm]; congr 1; exact Nat.mul_comm _ _
    rw [e3] at e2
    omega

/-- behind the take: all is well, or one divisor is owed -/
theorem Knuth.took {A V N n L i g t : Nat} {G G' Q y : Nat → Nat} (h : Knuth A V N n L (i + 1) G Q) (hi : i + n + 1 ≤ N) (hn : 2 ≤ n) (hy : Fits n y) (hV : nv y n = V) (hy1 : 2147483648 ≤ y (n - 1))
    (hg : Guessed (G (i + n) * 4294967296 + G (i + n - 1)) (G (i + n - 2)) (y (n - 1)) (y (n - 2)) g) (ht : TakeIn G (ext y n) g i N (n + 1) 0 t G') :
    (t = 0 ∧ nv (fun j => G (i + j)) (n + 1) = g * V + nv (fun j => G' (i + j)) (n + 1) ∧ nv (fun j => G' (i + j)) (n + 1) < V) ∨
    (t = 1 ∧ 0 < g ∧ ∃ r, r < V ∧ nv (fun j => G (i + j)) (n + 1) = (g - 1) * V + r ∧ nv (fun j => G' (i + j)) (n + 1) + V = 4294967296 ^ (n + 1) + r) := by
  obtain ⟨m, rfl⟩ : ∃ m, n = m + 2 := ⟨n - 2, by omega⟩
  have hF3 : Fits (m + 3) (fun j => G (i + j)) := fun j hj => h.fits _ (by omega)
  have hTV := h.next hi
  obtain ⟨r1, hr1, e1⟩ := nv_top3 hF3
  obtain ⟨r2, hr2, e2⟩ := nv_top2 hy
  rw [show i + (m + 2) - 1 = i + (m + 1) by omega, show i + (m + 2) - 2 = i + m by omega, show m + 2 - 1 = m + 1 by omega, show m + 2 - 2 = m by omega] at hg
  rw [show m + 2 - 1 = m + 1 by omega] at hy1
  have hnear := guess_near (q := nv (fun j => G (i + j)) (m + 3) / V) e1 (hV.symm.trans e2) hr1 hr2 (by omega) hg rfl hTV
  have hs := ht.taking.sum
  have ho := ht.taking.owed
  rw [ext_nv, hV] at hs
  have hG' : nv (fun j => G' (i + j)) (m + 3) < 4294967296 ^ (m + 3) := nv_lt fun j hj => ht.fits _ (by omega)
  have hVl : V < 4294967296 ^ (m + 3) := by
    have h1 := nv_lt hy
    rw [hV] at h1
    exact Nat.lt_of_lt_of_le h1 (Nat.pow_le_pow_right (by omega) (by omega))
  have hV0 : 0 < V := by omega
  have hdm := Nat.div_add_mod (nv (fun j => G (i + j)) (m + 3)) V
  have hml := Nat.mod_lt (nv (fun j => G (i + j)) (m + 3)) hV0
  rw [show m + 2 + 1 = m + 3 by omega] at *
  generalize nv (fun j => G (i + j)) (m + 3) = T at *
  generalize nv (fun j => G' (i + j)) (m + 3) = R at *
  generalize 4294967296 ^ (m + 3) = B at *
  generalize T / V = q at *
  generalize T % V = r at *
  rw [Nat.mul_comm V q] at hdm
  obtain ⟨n1, n2, n3⟩ := hnear
  have hcase : g = q ∨ g = q + 1 := by omega
  rcases hcase with rfl | rfl
  · left
    have ht0 : t = 0 := by
      apply Classical.byContradiction
      intro hne
      obtain rfl : t = 1 := by omega
      omega
    subst ht0
    exact ⟨rfl, by omega, by omega⟩
  · right
    have e5 : (q + 1) * V = q * V + V := by rw [Nat.add_mul, Nat.one_mul]
    rw [e5] at hs
    have ht1 : t = 1 := by
      apply Classical.byContradiction
      intro hne
      obtain rfl : t = 0 := by omega
      omega
    subst ht1
    exact ⟨rfl, by omega, r, hml, by rw [Nat.add_sub_cancel]; omega, by omega⟩

theorem Knuth.gave {V N n i s r : Nat} {G G' : Nat → Nat} {y : Nat → Nat} (hV : nv y n = V) (hi : i + n + 1 ≤ N) (hr : nv (fun j => G (i + j)) (n + 1) + V = 4294967296 ^ (n + 1) + r) (hb : BackIn G (ext y n) i N (n + 1) s G') :
    nv (fun j => G' (i + j)) (n + 1) = r := by
  have hs := hb.sum
  have ho := hb.owed
  rw [ext_nv, hV] at hs
  have hl : nv (fun j => G' (i + j)) (n + 1) < 4294967296 ^ (n + 1) := nv_lt fun j hj => hb.fits _ (by omega)
  generalize 4294967296 ^ (n + 1) = B at *
  have : s = 0 ∨ s = 1 := by omega
  rcases this with rfl | rfl <;> omega

theorem Knuth.done {A V N n L : Nat} {G Q : Nat → Nat} (h : Knuth A V N n L 0 G Q) (hn : n ≤ N) : nv Q L = A / V ∧ nv G N = A % V := by
  obtain ⟨h1, h2, h3, h4, h5, h6⟩ := h
  have e : nv G N = nv (fun j => G (0 + j)) n := by
    rw [nv_high_zero (m := n) hn (fun j hj hN => h5 j (by omega) hN)]
    exact nv_congr fun j _ => by rw [Nat.zero_add]
  rw [← e] at h4
  rw [← h6, Nat.mul_add_div (by omega), Nat.div_eq_of_lt h4, Nat.mul_add_mod, Nat.mod_eq_of_lt h4]
  exact ⟨rfl, rfl⟩

/-- the divisor's first bit is 1: the first window is below it -/
theorem Knuth.start {A V N n L : Nat} {G : Nat → Nat} (hG : Fits N G) (hN : N = L + n) (hA : nv G N = A) (hV : A < V * 4294967296 ^ L) : Knuth A V N n L L G (fun _ => 0) := by
  subst hN
  refine ⟨hG, fun _ _ => by omega, fun _ _ => rfl, ?_, fun j h1 h2 => by omega, by rw [nv_zeros]; omega⟩
  rw [nv_shift] at hA
  have h1 : 4294967296 ^ L * nv (fun j => G (L + j)) n < V * 4294967296 ^ L := by omega
  rw [Nat.mul_comm] at h1
  exact Nat.lt_of_mul_lt_mul_right h1
end Go.Proofs.YtopbfgmpilnghaaDoor
