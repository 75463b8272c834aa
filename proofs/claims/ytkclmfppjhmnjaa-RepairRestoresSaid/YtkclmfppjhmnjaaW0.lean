/- Plain: the encoding of numbers: bit lengths, further bytes, writing and reading. -/
namespace Go.Proofs.Ytkclmfppjhmnjaa
namespace Wire

/-- How many binary digits a number has. -/
def bl (n : Nat) : Nat := if n = 0 then 0 else Nat.log2 n + 1
theorem bl_le (n m : Nat) : bl n ≤ m ↔ n < 2 ^ m := by
  unfold bl
  by_cases h : n = 0
  · rw [if_pos h]; subst h; simp [Nat.two_pow_pos]
  · rw [if_neg h]
    constructor
    · intro h1; exact (Nat.log2_lt h).1 (by omega)
    · intro h1; have := (Nat.log2_lt h).2 h1; omega
theorem bl_div (n k : Nat) (h : 2 ^ k ≤ n) : bl n = k + bl (n / 2 ^ k) := by
  have h1 : ∀ m, bl (n / 2 ^ k) ≤ m ↔ bl n ≤ k + m := by
    intro m
    rw [bl_le, bl_le, Nat.div_lt_iff_lt_mul (Nat.two_pow_pos k), Nat.pow_add, Nat.mul_comm]
  have h2 : ¬ bl n ≤ k := by rw [bl_le]; omega
  have h3 := (h1 (bl (n / 2 ^ k))).1 (Nat.le_refl _)
  have h4 := (h1 (bl n - k)).2 (by omega)
  omega
/-- How many further bytes. -/
def fur (n : Nat) : Nat := (bl n - 1) / 7
theorem fur_le (n k : Nat) : fur n ≤ k ↔ n < 2 ^ (7 * k + 7) := by
  rw [← bl_le]; unfold fur; omega
theorem fur_lt8 {n : Nat} (h : n < 2 ^ 53) : fur n ≤ 7 := (fur_le n 7).2 (Nat.lt_of_lt_of_le h (by decide))
/-- What stands for a number that is encoded. -/
def num (n : Int) : Nat := if n < 0 ∨ 9007199254740991 < n then 0 else n.toNat
theorem num_lt (n : Int) : num n < 2 ^ 53 := by
  unfold num
  have : (2:Nat) ^ 53 = 9007199254740992 := by decide
  split <;> omega
theorem num_of {n : Nat} (h : n < 2 ^ 53) : num (n : Int) = n := by
  have : (2:Nat) ^ 53 = 9007199254740992 := by decide
  unfold num
  rw [if_neg (by omega)]
  rfl
/-- The low bytes of a number. -/
def low (n : Nat) : Nat → List Nat
  | 0 => []
  | k + 1 => (n / 2 ^ (8 * k)) % 256 :: low n k
/-- The encoding of a number. -/
def enc (n : Nat) : List Nat := (256 - 2 ^ (8 - fur n) + n / 2 ^ (8 * fur n)) :: low n (fur n)
theorem low_length (n k : Nat) : (low n k).length = k := by
  induction k with
  | zero => rfl
  | succ k ih => rw [low, List.length_cons, ih]
theorem enc_length (n : Nat) : (enc n).length = fur n + 1 := by unfold enc; rw [List.length_cons, low_length]
theorem low_byt (n k : Nat) : ∀ x ∈ low n k, x < 256 := by
  induction k with
  | zero => intro x hx; simp [low] at hx
  | succ k ih =>
    intro x hx
    rw [low] at hx
    rcases List.mem_cons.1 hx with h | h
    · rw [h]; exact Nat.mod_lt _ (by decide)
    · exact ih x h
/-- The head of an encoding. -/
theorem head_lt {n : Nat} (h : n < 2 ^ 53) : n / 2 ^ (8 * fur n) < 2 ^ (7 - fur n) := by
  have h1 := fur_lt8 h
  have h2 := (fur_le n (fur n)).1 (Nat.le_refl _)
  rw [Nat.div_lt_iff_lt_mul (Nat.two_pow_pos _), ← Nat.pow_add]
  by_cases h7 : fur n = 7
  · rw [h7]; exact Nat.lt_of_lt_of_le h (by decide)
  · exact Nat.lt_of_lt_of_le h2 (Nat.pow_le_pow_right (by decide) (by omega))
theorem two_pow_cases {k : Nat} (h : k ≤ 7) : 2 ^ (8 - k) = 2 * 2 ^ (7 - k) ∧ 2 ^ (8 - k) ≤ 256 ∧ 1 ≤ 2 ^ (7 - k) := by
  refine ⟨by rw [← Nat.pow_succ']; congr 1; omega, ?_, Nat.two_pow_pos _⟩
  exact Nat.le_trans (Nat.pow_le_pow_right (by decide) (show 8 - k ≤ 8 by omega)) (by decide)
theorem enc_byt {n : Nat} (h : n < 2 ^ 53) : ∀ x ∈ enc n, x < 256 := by
  intro x hx
  unfold enc at hx
  rcases List.mem_cons.1 hx with h1 | h1
  · have := head_lt h
    have := two_pow_cases (fur_lt8 h)
    omega
  · exact low_byt _ _ x h1

/-- The number of leading ones of a byte. -/
def ones (b : Nat) : Nat := 8 - bl (255 - b)
theorem ones_head {k x : Nat} (hk : k ≤ 7) (hx : x < 2 ^ (7 - k)) : ones (256 - 2 ^ (8 - k) + x) = k := by
  have h := two_pow_cases hk
  unfold ones
  have h1 : bl (255 - (256 - 2 ^ (8 - k) + x)) ≤ 8 - k := by rw [bl_le]; omega
  have h2 : ¬ bl (255 - (256 - 2 ^ (8 - k) + x)) ≤ 7 - k := by rw [bl_le]; omega
  omega
theorem ones_le (b : Nat) : ones b ≤ 8 := by unfold ones; omega
/-- A byte with k leading ones. -/
theorem of_ones {b : Nat} (hb : b < 256) (hk : ones b ≤ 7) : 256 - 2 ^ (8 - ones b) ≤ b ∧ b - (256 - 2 ^ (8 - ones b)) < 2 ^ (7 - ones b) := by
  have h := two_pow_cases hk
  have h8 : bl (255 - b) ≤ 8 := by rw [bl_le]; omega
  have h1 : bl (255 - b) ≤ 8 - ones b := by unfold ones; omega
  have h2 : ¬ bl (255 - b) ≤ 7 - ones b := by
    have : ones b = 8 - bl (255 - b) := rfl
    omega
  rw [bl_le] at h1 h2
  omega
/-- The number that bytes are. -/
def big (n : Nat) : List Nat → Nat
  | [] => n
  | b :: l => big (n * 256 + b) l
theorem big_lin (l : List Nat) (n : Nat) : big n l = n * 2 ^ (8 * l.length) + big 0 l := by
  induction l generalizing n with
  | nil => simp [big]
  | cons b l ih =>
    rw [big, big, ih, ih (0 * 256 + b), List.length_cons, show 8 * (l.length + 1) = 8 * l.length + 8 by omega, Nat.pow_add]
    rw [Nat.zero_mul, Nat.zero_add, Nat.add_mul, Nat.mul_assoc, Nat.mul_comm (2 ^ (8 * l.length)) (2 ^ 8), show (2:Nat) ^ 8 = 256 by decide]
    omega
theorem big_lt {l : List Nat} (h : ∀ x ∈ l, x < 256) : big 0 l < 2 ^ (8 * l.length) := by
  induction l with
  | nil => simp [big]
  | cons b l ih =>
    rw [big, big_lin]
    have h1 := h b (by simp)
    have h2 := ih (fun x hx => h x (by simp [hx]))
    rw [List.length_cons, show 8 * (l.length + 1) = 8 * l.length + 8 by omega, Nat.pow_add]
    have : (0 * 256 + b) * 2 ^ (8 * l.length) ≤ 255 * 2 ^ (8 * l.length) := Nat.mul_le_mul_right _ (by omega)
    omega
theorem big_low (n k : Nat) (h : Nat) : big h (low n k) = h * 2 ^ (8 * k) + n % 2 ^ (8 * k) := by
  induction k generalizing h with
  | zero => simp [big, low, Nat.mod_one]
  | succ k ih =>
    rw [low, big, ih, show 8 * (k + 1) = 8 * k + 8 by omega, Nat.pow_add, Nat.mod_mul, Nat.add_mul, Nat.mul_assoc, Nat.mul_comm 256]
    have : (2:Nat) ^ 8 = 256 := by decide
    rw [this, Nat.mul_comm (2 ^ (8 * k)) (n / 2 ^ (8 * k) % 256)]
    omega
theorem low_big {l : List Nat} (h : ∀ x ∈ l, x < 256) (n : Nat) : low (big n l) l.length = l := by
  induction l generalizing n with
  | nil => rfl
  | cons b l ih =>
    rw [List.length_cons, low, big, ih (fun x hx => h x (by simp [hx]))]
    congr 1
    rw [big_lin, Nat.add_comm, Nat.add_mul_div_right _ _ (Nat.two_pow_pos _), Nat.div_eq_of_lt (big_lt (fun x hx => h x (by simp [hx])))]
    have := h b (by simp)
    omega
/-- What reading a number tells: the error, the number, and the bytes behind it. -/
def rdErr (l : List Nat) : Nat :=
  match l with
  | [] => 9
  | b :: r => if 7 < ones b then 3 else if r.length < ones b then 9 else
    if 9007199254740991 < big (b - (256 - 2 ^ (8 - ones b))) (r.take (ones b)) ∨ fur (big (b - (256 - 2 ^ (8 - ones b))) (r.take (ones b))) ≠ ones b then 3 else 0
def rdRaw (l : List Nat) : Nat :=
  match l with
  | [] => 0
  | b :: r => big (b - (256 - 2 ^ (8 - ones b))) (r.take (ones b))
def rdNum (l : List Nat) : Nat := if rdErr l = 0 then rdRaw l else 0
def rdRest (l : List Nat) : List Nat := if rdErr l = 0 then l.drop (ones (l.headD 0) + 1) else []
/-- What is written is read. -/
theorem rd_enc {n : Nat} (h : n < 2 ^ 53) (r : List Nat) : rdErr (enc n ++ r) = 0 ∧ rdNum (enc n ++ r) = n ∧ rdRest (enc n ++ r) = r := by
  have h53 : (2:Nat) ^ 53 = 9007199254740992 := by decide
  have hf := fur_lt8 h
  have hh := head_lt h
  have ho := ones_head hf hh
  have hb : big (n / 2 ^ (8 * fur n)) (low n (fur n)) = n := by
    rw [big_low, Nat.mul_comm]; exact Nat.div_add_mod n _
  have ht : (low n (fur n) ++ r).take (fur n) = low n (fur n) := by rw [List.take_append_of_le_length (by rw [low_length]; exact Nat.le_refl _), List.take_of_length_le (by rw [low_length]; exact Nat.le_refl _)]
  have hs : 256 - 2 ^ (8 - fur n) + n / 2 ^ (8 * fur n) - (256 - 2 ^ (8 - fur n)) = n / 2 ^ (8 * fur n) := Nat.add_sub_cancel_left _ _
  have hraw : rdRaw (enc n ++ r) = n := by
    unfold enc
    rw [List.cons_append, rdRaw]
    simp only [ho, ht, hs, hb]
  have he : rdErr (enc n ++ r) = 0 := by
    unfold enc
    rw [List.cons_append, rdErr]
    simp only [ho, ht, hs, hb]
    rw [if_neg (by omega), if_neg (by rw [List.length_append, low_length]; omega), if_neg (by omega)]
  refine ⟨he, ?_, ?_⟩
  · unfold rdNum; rw [if_pos he, hraw]
  · unfold rdRest; rw [if_pos he]
    unfold enc
    rw [List.cons_append, List.headD_cons, ho, List.drop_succ_cons, List.drop_append_of_le_length (by rw [low_length]; exact Nat.le_refl _), List.drop_of_length_le (by rw [low_length]; exact Nat.le_refl _)]
    rfl
/-- What is read has been written so. -/
theorem enc_rd {l : List Nat} (hl : ∀ x ∈ l, x < 256) (h : rdErr l = 0) : rdNum l < 2 ^ 53 ∧ l = enc (rdNum l) ++ rdRest l := by
  have h53 : (2:Nat) ^ 53 = 9007199254740992 := by decide
  have hn : rdNum l = rdRaw l := by unfold rdNum; rw [if_pos h]
  have hr : rdRest l = l.drop (ones (l.headD 0) + 1) := by unfold rdRest; rw [if_pos h]
  rw [hn, hr]
  cases l with
  | nil => simp [rdErr] at h
  | cons b r =>
    rw [rdErr] at h
    rw [rdRaw, List.headD_cons, List.drop_succ_cons]
    obtain ⟨k, hk⟩ : ∃ k, ones b = k := ⟨_, rfl⟩
    have hb := hl b (by simp)
    have hof := of_ones hb
    rw [hk] at h hof ⊢
    split at h
    · omega
    · split at h
      · omega
      · split at h
        · omega
        · rename_i h1 h2 h3
          obtain ⟨hof1, hof2⟩ := hof (by omega)
          obtain ⟨x, hx⟩ : ∃ x, b - (256 - 2 ^ (8 - k)) = x := ⟨_, rfl⟩
          obtain ⟨t, ht⟩ : ∃ t, r.take k = t := ⟨_, rfl⟩
          have htl : t.length = k := by rw [← ht, List.length_take]; omega
          have htb : ∀ y ∈ t, y < 256 := fun y hy => hl y (by rw [← ht] at hy; exact List.mem_cons_of_mem _ (List.mem_of_mem_take hy))
          rw [hx, ht] at h3 ⊢
          have hf : fur (big x t) = k := by omega
          refine ⟨by omega, ?_⟩
          unfold enc
          rw [hf]
          have hlow := low_big htb x
          rw [htl] at hlow
          rw [hlow]
          have hdiv : big x t / 2 ^ (8 * k) = x := by
            rw [big_lin, htl, Nat.add_comm, Nat.add_mul_div_right _ _ (Nat.two_pow_pos _), Nat.div_eq_of_lt (by rw [← htl]; exact big_lt htb), Nat.zero_add]
          rw [hdiv, List.cons_append, ← ht, List.take_append_drop]
          congr 1
          omega
end Wire
end Go.Proofs.Ytkclmfppjhmnjaa
