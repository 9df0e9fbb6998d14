/- Digits to a base, as bytes: the plain law of what is written. No function of the program stands here. -/
import Derived.Test.YtopbfgmpilnghaaDoorPowers
set_option linter.unusedVariables false
set_option linter.unusedSimpArgs false
namespace Go.Proofs.YtopbfgmpilnghaaDoor

/-- the byte of a digit -/
def dgb (d : Nat) : Nat := if d < 10 then 48 + d else 87 + d
theorem dgb_lt {d : Nat} (h : d < 36) : dgb d < 256 ∧ 48 ≤ dgb d := by unfold dgb; split <;> omega
theorem dgb_zero {d : Nat} (h : d < 36) : dgb d = 48 ↔ d = 0 := by unfold dgb; split <;> omega
theorem dgb_inj {c d : Nat} (h : c < 36) (h' : d < 36) (e : dgb c = dgb d) : c = d := by unfold dgb at e; split at e <;> split at e <;> omega

/-- so many digits of a number, the greatest first -/
def pad (b : Nat) : Nat → Nat → List Nat
  | 0, _ => []
  | m + 1, a => pad b m (a / b) ++ [dgb (a % b)]
theorem pad_len (b m a : Nat) : (pad b m a).length = m := by
  induction m generalizing a with
  | zero => rfl
  | succ m ih => simp [pad, ih]
theorem pad_add (b m n a : Nat) : pad b (m + n) a = pad b m (a / b ^ n) ++ pad b n (a % b ^ n) := by
  induction n generalizing a with
  | zero => simp [pad]
  | succ n ih =>
    have e1 : a / b / b ^ n = a / b ^ (n + 1) := by rw [Nat.div_div_eq_div_mul, Nat.pow_succ, Nat.mul_comm]
    have e2 : a / b % b ^ n = a % b ^ (n + 1) / b := by rw [Nat.pow_succ, Nat.mul_comm, Nat.mod_mul_right_div_self]
    have e3 : a % b ^ (n + 1) % b = a % b := by rw [Nat.pow_succ, Nat.mul_comm, Nat.mod_mul_right_mod]
    show pad b (m + n) (a / b) ++ [dgb (a % b)] = pad b m (a / b ^ (n + 1)) ++ (pad b n (a % b ^ (n + 1) / b) ++ [dgb (a % b ^ (n + 1) % b)])
    rw [ih, e1, e2, e3, List.append_assoc]
theorem pad_zero (b m : Nat) : pad b m 0 = List.replicate m 48 := by
  induction m with
  | zero => rfl
  | succ m ih =>
    simp only [pad, Nat.zero_div, Nat.zero_mod, ih]
    rw [List.replicate_succ']
    rfl
theorem pad_get (b : Nat) : ∀ (m a i : Nat), i < m → (pad b m a)[i]? = some (dgb (a / b ^ (m - 1 - i) % b)) := by
  intro m
  induction m with
  | zero => intro a i h; omega
  | succ m ih =>
    intro a i h
    simp only [pad]
    by_cases e : i = m
    · subst e
      rw [List.getElem?_append_right (by rw [pad_len]; omega), pad_len]
      simp
    · rw [List.getElem?_append_left (by rw [pad_len]; omega), ih (a / b) i (by omega), Nat.div_div_eq_div_mul, ← Nat.pow_succ']
      rw [show (m - 1 - i).succ = m + 1 - 1 - i by omega]

/-- without noughts ahead; one stays -/
def bare : List Nat → List Nat
  | [] => []
  | [x] => [x]
  | x :: y :: l => if x = 48 then bare (y :: l) else x :: y :: l
theorem bare_zeros (m : Nat) {r : List Nat} (hr : r ≠ []) : bare (List.replicate m 48 ++ r) = bare r := by
  induction m with
  | zero => rfl
  | succ m ih =>
    rw [List.replicate_succ, List.cons_append]
    obtain ⟨y, l, e⟩ : ∃ y l, List.replicate m 48 ++ r = y :: l := by
      cases h : List.replicate m 48 ++ r with
      | nil => simp at h; exact absurd h.2 hr
      | cons y l => exact ⟨y, l, rfl⟩
    rw [e] at ih ⊢
    show (if (48 : Nat) = 48 then bare (y :: l) else _) = _
    rw [if_pos rfl]
    exact ih
theorem bare_app : ∀ {l : List Nat} (r : List Nat), (∃ x ∈ l, x ≠ 48) → bare (l ++ r) = bare l ++ r
  | [], r, h => by obtain ⟨x, hx, _⟩ := h; cases hx
  | [x], r, h => by
    obtain ⟨y, hy, hne⟩ := h
    simp at hy
    subst hy
    cases r with
    | nil => rfl
    | cons z r =>
      show (if y = 48 then _ else y :: z :: r) = _
      rw [if_neg hne]
      rfl
  | x :: y :: l, r, h => by
    show (if x = 48 then bare (y :: (l ++ r)) else x :: y :: (l ++ r)) = (if x = 48 then bare (y :: l) else x :: y :: l) ++ r
    by_cases e : x = 48
    · rw [if_pos e, if_pos e]
      refine bare_app (l := y :: l) r ?_
      obtain ⟨z, hz, hne⟩ := h
      rcases List.mem_cons.1 hz with rfl | hz
      · exact absurd e hne
      · exact ⟨z, hz, hne⟩
    · rw [if_neg e, if_neg e]
      rfl
theorem pad_some {b : Nat} (hb : 2 ≤ b) (hb2 : b ≤ 36) : ∀ {m a : Nat}, a < b ^ m → a ≠ 0 → ∃ x ∈ pad b m a, x ≠ 48
  | 0, a, h, h0 => by simp at h; omega
  | m + 1, a, h, h0 => by
    by_cases e : a % b = 0
    · have h1 : a / b < b ^ m := by rw [Nat.div_lt_iff_lt_mul (by omega), ← Nat.pow_succ]; exact h
      have h2 : a / b ≠ 0 := by
        intro h2
        have := Nat.div_add_mod a b
        rw [h2, e] at this
        omega
      obtain ⟨x, hx, hne⟩ := pad_some hb hb2 h1 h2
      exact ⟨x, by simp only [pad]; exact List.mem_append_left _ hx, hne⟩
    · exact ⟨dgb (a % b), by simp [pad], fun h => e ((dgb_zero (by have := Nat.mod_lt a (show 0 < b by omega); omega)).1 h)⟩
/-- the digits of a natural -/
theorem bare_pad_low {b m n a : Nat} (hm : a < b ^ n) (hn : 0 < n) : bare (pad b (m + n) a) = bare (pad b n a) := by
  rw [pad_add, Nat.div_eq_of_lt hm, Nat.mod_eq_of_lt hm, pad_zero]
  exact bare_zeros m (fun h => by have := congrArg List.length h; rw [pad_len] at this; simp at this; omega)
theorem bare_pad_high {b m n a : Nat} (hb : 2 ≤ b) (hb2 : b ≤ 36) (hm : a < b ^ (m + n)) (hn : a / b ^ n ≠ 0) : bare (pad b (m + n) a) = bare (pad b m (a / b ^ n)) ++ pad b n (a % b ^ n) := by
  rw [pad_add]
  refine bare_app _ (pad_some hb hb2 ?_ hn)
  rw [Nat.div_lt_iff_lt_mul (Nat.pow_pos (by omega)), ← Nat.pow_add]
  exact hm
theorem bare_ne {l : List Nat} (h : l ≠ []) : bare l ≠ [] := by
  induction l with
  | nil => exact absurd rfl h
  | cons x l ih =>
    cases l with
    | nil => simp [bare]
    | cons y l =>
      show (if x = 48 then _ else _) ≠ []
      split
      · exact ih (by simp)
      · simp
/-- how many noughts are dropped -/
def lead : List Nat → Nat
  | [] => 0
  | [x] => 0
  | x :: y :: l => if x = 48 then lead (y :: l) + 1 else 0
theorem bare_drop : ∀ l : List Nat, bare l = l.drop (lead l)
  | [] => rfl
  | [x] => rfl
  | x :: y :: l => by
    simp only [bare, lead]
    split
    · rw [bare_drop (y :: l)]; rfl
    · rfl
theorem lead_spec : ∀ l : List Nat, (∀ k, k < lead l → l[k]? = some 48 ∧ k + 1 < l.length) ∧ (lead l + 1 < l.length → l[lead l]? ≠ some 48)
  | [] => ⟨fun k h => by simp [lead] at h, fun h => by simp at h⟩
  | [x] => ⟨fun k h => by simp [lead] at h, fun h => by simp [lead] at h⟩
  | x :: y :: l => by
    obtain ⟨h1, h2⟩ := lead_spec (y :: l)
    simp only [lead]
    by_cases e : x = 48
    · rw [if_pos e]
      refine ⟨fun k hk => ?_, fun h => ?_⟩
      · rcases k with _ | k
        · exact ⟨by simp [e], by simp⟩
        · have := h1 k (by omega)
          simp only [List.getElem?_cons_succ, List.length_cons] at this ⊢
          exact ⟨this.1, by omega⟩
      · have := h2 (by simp only [List.length_cons] at h ⊢; omega)
        simpa using this
    · rw [if_neg e]
      exact ⟨fun k h => absurd h (by omega), fun _ => by simpa using e⟩
end Go.Proofs.YtopbfgmpilnghaaDoor
