namespace Coffer

abbrev Bytes := List UInt8

/-- The number that bytes spell, the highest first. -/
def num (l : Bytes) : Nat := l.foldl (fun v c => v * 256 + c.toNat) 0

/-- The lowest n bytes of v, the highest first. -/
def be : Nat → Nat → Bytes
  | 0, _ => []
  | n + 1, v => be n (v / 256) ++ [UInt8.ofNat (v % 256)]

def zeros : Bytes := List.replicate 512 0
theorem zeros_length : zeros.length = 512 := List.length_replicate ..

/-- n bytes of b from at on are turned into those of v. -/
def lay (b : Bytes) (at' v n : Nat) : Bytes := b.take at' ++ be n v ++ b.drop (at' + n)

def nof (b : Bytes) (at' n : Nat) : Nat := num ((b.drop at').take n)

theorem foldl_num (l : Bytes) (a : Nat) : l.foldl (fun v c => v * 256 + c.toNat) a = a * 256 ^ l.length + num l := by
  induction l generalizing a with
  | nil => simp [num]
  | cons c l ih =>
    simp only [num, List.foldl_cons, List.length_cons]
    rw [ih, ih]
    simp only [Nat.zero_mul, Nat.zero_add]
    rw [Nat.pow_succ, Nat.add_mul, Nat.mul_assoc, Nat.mul_comm 256, Nat.add_assoc]

theorem num_append (a b : Bytes) : num (a ++ b) = num a * 256 ^ b.length + num b := by
  rw [num, List.foldl_append, ← num, foldl_num]

theorem num_nil : num [] = 0 := rfl
theorem num_one (c : UInt8) : num [c] = c.toNat := by simp [num]

theorem num_lt (l : Bytes) : num l < 256 ^ l.length := by
  induction l with
  | nil => simp [num]
  | cons c l ih =>
    have : num (c :: l) = num ([c] ++ l) := rfl
    rw [this, num_append, num_one, List.length_cons, Nat.pow_succ, Nat.mul_comm _ 256]
    have := c.toNat_lt
    have h1 : c.toNat * 256 ^ l.length + 256 ^ l.length ≤ 256 * 256 ^ l.length := by
      rw [← Nat.succ_mul]; exact Nat.mul_le_mul_right _ (by omega)
    omega

theorem be_length (n v : Nat) : (be n v).length = n := by
  induction n generalizing v with
  | zero => rfl
  | succ n ih => simp [be, ih]

theorem num_be (n v : Nat) : num (be n v) = v % 256 ^ n := by
  induction n generalizing v with
  | zero => simp [be, num, Nat.mod_one]
  | succ n ih =>
    rw [be, num_append, ih, num_one, List.length_singleton, Nat.pow_one, Nat.pow_succ, UInt8.toNat_ofNat']
    rw [Nat.mul_comm (256 ^ n) 256, Nat.mod_mul]
    omega

theorem num_inj {a b : Bytes} (h : a.length = b.length) (e : num a = num b) : a = b := by
  induction a generalizing b with
  | nil => cases b with | nil => rfl | cons => simp at h
  | cons c a ih =>
    cases b with
    | nil => simp at h
    | cons d b =>
      have e1 : num ([c] ++ a) = num ([d] ++ b) := e
      simp only [num_append, num_one] at e1
      simp only [List.length_cons, Nat.add_right_cancel_iff] at h
      have la := num_lt a
      have lb := num_lt b
      rw [h] at e1 la
      have hc : c.toNat = d.toNat := by
        have h1 : (c.toNat * 256 ^ b.length + num a) / 256 ^ b.length = (d.toNat * 256 ^ b.length + num b) / 256 ^ b.length := by rw [e1]
        rw [Nat.add_comm, Nat.mul_comm, Nat.add_mul_div_left _ _ (Nat.pow_pos (by decide)), Nat.div_eq_of_lt la, Nat.add_comm (_ * _), Nat.mul_comm, Nat.add_mul_div_left _ _ (Nat.pow_pos (by decide)), Nat.div_eq_of_lt lb] at h1
        omega
      have hn : num a = num b := by rw [hc] at e1; omega
      rw [UInt8.toNat_inj.1 hc, ih h hn]

theorem lay_length {b : Bytes} {at' v n : Nat} (h : at' + n ≤ b.length) : (lay b at' v n).length = b.length := by
  simp [lay, be_length]; omega

/-- What is laid reads so. -/
theorem nof_lay {b : Bytes} {at' v n : Nat} (h : at' + n ≤ b.length) : nof (lay b at' v n) at' n = v % 256 ^ n := by
  unfold nof lay
  have h1 : (b.take at').length = at' := by simp; omega
  rw [List.append_assoc, List.drop_append_of_le_length (by omega), List.drop_of_length_le (by omega), List.nil_append,
    List.take_append_of_le_length (by rw [be_length]; exact Nat.le_refl _), List.take_of_length_le (by rw [be_length]; exact Nat.le_refl _), num_be]

/-- What is laid elsewhere changes nothing. -/
theorem slice_lay_before {b : Bytes} {at' v n p m : Nat} (hn : at' + n ≤ b.length) (h : p + m ≤ at') : ((lay b at' v n).drop p).take m = (b.drop p).take m := by
  apply List.ext_getElem?
  intro i
  simp only [List.getElem?_take, List.getElem?_drop, lay]
  split
  · rw [List.append_assoc, List.getElem?_append_left (by simp; omega), List.getElem?_take, if_pos (by omega)]
  · rfl

theorem slice_lay_after {b : Bytes} {at' v n p m : Nat} (hn : at' + n ≤ b.length) (h : at' + n ≤ p) : ((lay b at' v n).drop p).take m = (b.drop p).take m := by
  apply List.ext_getElem?
  intro i
  simp only [List.getElem?_take, List.getElem?_drop, lay]
  split
  · rw [List.getElem?_append_right (by simp [be_length]; omega), List.getElem?_drop]
    congr 1
    simp [be_length]; omega
  · rfl

theorem nof_lay_before {b : Bytes} {at' v n p m : Nat} (hn : at' + n ≤ b.length) (h : p + m ≤ at') : nof (lay b at' v n) p m = nof b p m := by
  unfold nof; rw [slice_lay_before hn h]
theorem nof_lay_after {b : Bytes} {at' v n p m : Nat} (hn : at' + n ≤ b.length) (h : at' + n ≤ p) : nof (lay b at' v n) p m = nof b p m := by
  unfold nof; rw [slice_lay_after hn h]

/-- The first k bytes of new stand at the head of b. -/
def tear (b new : Bytes) (k : Nat) : Bytes := new.take k ++ b.drop k

theorem tear_length {b new : Bytes} (h : b.length = new.length) (k : Nat) : (tear b new k).length = b.length := by
  simp [tear]; omega

theorem tear_get {b new : Bytes} (h : b.length = new.length) (k i : Nat) : (tear b new k)[i]? = if i < k then new[i]? else b[i]? := by
  unfold tear
  by_cases hk : i < k
  · rw [if_pos hk]
    by_cases hi : i < new.length
    · rw [List.getElem?_append_left (by simp; omega), List.getElem?_take, if_pos hk]
    · rw [List.getElem?_append_right (by simp; omega)]
      simp only [List.length_take, List.getElem?_drop]
      rw [List.getElem?_eq_none (by omega), List.getElem?_eq_none (by omega)]
  · rw [if_neg hk]
    by_cases hi : k ≤ new.length
    · rw [List.getElem?_append_right (by simp; omega)]
      simp only [List.length_take, List.getElem?_drop]
      congr 1; omega
    · rw [List.getElem?_append_right (by simp; omega), List.getElem?_eq_none (by simp; omega), List.getElem?_eq_none (by omega)]

/-- A stretch that lies whole on one side of the tear. -/
theorem slice_tear_lo {b new : Bytes} (h : b.length = new.length) {k p m : Nat} (hk : p + m ≤ k) : ((tear b new k).drop p).take m = (new.drop p).take m := by
  apply List.ext_getElem?
  intro i
  simp only [List.getElem?_take, List.getElem?_drop, tear_get h]
  split
  · rw [if_pos (by omega)]
  · rfl
theorem slice_tear_hi {b new : Bytes} (h : b.length = new.length) {k p m : Nat} (hk : k ≤ p) : ((tear b new k).drop p).take m = (b.drop p).take m := by
  apply List.ext_getElem?
  intro i
  simp only [List.getElem?_take, List.getElem?_drop, tear_get h]
  split
  · rw [if_neg (by omega)]
  · rfl
theorem tear_all {b new : Bytes} (h : b.length = new.length) {k : Nat} (hk : new.length ≤ k) : tear b new k = new := by
  unfold tear
  rw [List.take_of_length_le hk, List.drop_of_length_le (by omega), List.append_nil]
theorem tear_zero (b new : Bytes) : tear b new 0 = b := by simp [tear]

/-- Torn anywhere between two whole stretches: the number there is the old or the new one or a blend. Byte p is one of both. -/
theorem tear_byte {b new : Bytes} (h : b.length = new.length) (k p : Nat) : (tear b new k)[p]? = b[p]? ∨ (tear b new k)[p]? = new[p]? := by
  rw [tear_get h]; split
  · exact .inr rfl
  · exact .inl rfl

/-- The lowest byte of a number in eight bytes. -/
theorem nof8_low {b : Bytes} {p : Nat} (h : p + 8 ≤ b.length) : ∃ c, b[p + 7]? = some c ∧ nof b p 8 % 256 = c.toNat := by
  have hc : b[p + 7]? = some (b[p + 7]'(by omega)) := List.getElem?_eq_getElem (by omega)
  refine ⟨_, hc, ?_⟩
  unfold nof
  have e : (b.drop p).take 8 = (b.drop p).take 7 ++ [b[p + 7]'(by omega)] := by
    rw [List.take_succ_eq_append_getElem (by simp; omega)]
    simp
  rw [e, num_append, num_one]
  have := (b[p + 7]'(by omega)).toNat_lt
  simp only [List.length_singleton, Nat.pow_one]
  omega

theorem nof_lt (b : Bytes) (p m : Nat) : nof b p m < 256 ^ m := by
  have := num_lt ((b.drop p).take m)
  have h : ((b.drop p).take m).length ≤ m := List.length_take_le _ _
  exact Nat.lt_of_lt_of_le this (Nat.pow_le_pow_right (by decide) h)

end Coffer
