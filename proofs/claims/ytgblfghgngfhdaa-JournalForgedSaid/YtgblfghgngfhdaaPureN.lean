import Derived.Test.YtgblfghgngfhdaaPureM
namespace Coffer

/-! Which lists may be committed. -/

/-- The first error of a list's elements. -/
def scan (homes : Int) : List (Int × Bytes) → List Int → Int
  | [], _ => 0
  | x :: l, s => if x.1 < 0 ∨ homes ≤ x.1 ∨ x.1 ∈ s then 1 else if x.2.length ≠ 512 then 9 else scan homes l (s ++ [x.1])

/-- The error of a list. -/
def fitsE (homes : Int) (ring : Nat) (l : List (Int × Bytes)) : Int :=
  if scan homes l [] ≠ 0 then scan homes l [] else if 40 < l.length ∨ ring ≤ l.length then 2 else 0

theorem scan_err (homes : Int) : ∀ (l : List (Int × Bytes)) (s : List Int), scan homes l s = 0 ∨ scan homes l s = 1 ∨ scan homes l s = 9
  | [], _ => .inl rfl
  | x :: l, s => by
    unfold scan
    split
    · exact .inr (.inl rfl)
    · split
      · exact .inr (.inr rfl)
      · exact scan_err homes l _

theorem scan_bad {homes : Int} {l : List (Int × Bytes)} {s : List Int} {k : Nat} {x : Int × Bytes} (hx : l[k]? = some x) (h : x.1 < 0 ∨ homes ≤ x.1 ∨ x.1 ∈ s) : scan homes (l.drop k) s = 1 := by
  rw [List.drop_eq_getElem_cons (List.getElem?_eq_some_iff.1 hx).1, (List.getElem?_eq_some_iff.1 hx).2]
  unfold scan
  rw [if_pos h]
theorem scan_size {homes : Int} {l : List (Int × Bytes)} {s : List Int} {k : Nat} {x : Int × Bytes} (hx : l[k]? = some x) (h : ¬ (x.1 < 0 ∨ homes ≤ x.1 ∨ x.1 ∈ s)) (h2 : x.2.length ≠ 512) : scan homes (l.drop k) s = 9 := by
  rw [List.drop_eq_getElem_cons (List.getElem?_eq_some_iff.1 hx).1, (List.getElem?_eq_some_iff.1 hx).2]
  unfold scan
  rw [if_neg h, if_pos h2]
theorem scan_next {homes : Int} {l : List (Int × Bytes)} {s : List Int} {k : Nat} {x : Int × Bytes} (hx : l[k]? = some x) (h : ¬ (x.1 < 0 ∨ homes ≤ x.1 ∨ x.1 ∈ s)) (h2 : x.2.length = 512) : scan homes (l.drop k) s = scan homes (l.drop (k + 1)) (s ++ [x.1]) := by
  rw [List.drop_eq_getElem_cons (List.getElem?_eq_some_iff.1 hx).1, (List.getElem?_eq_some_iff.1 hx).2]
  conv => lhs; unfold scan
  rw [if_neg h, if_neg (not_not_intro h2)]

theorem scan_zero {homes : Nat} : ∀ {l : List (Int × Bytes)} {s : List Int}, scan homes l s = 0 →
    ∃ m : Puts, l = m.map (fun x => ((x.1 : Int), x.2)) ∧ (∀ x, x ∈ m → x.1 < homes ∧ x.2.length = 512 ∧ (x.1 : Int) ∉ s) ∧ (m.map (·.1)).Nodup
  | [], _, _ => ⟨[], rfl, (fun x hx => by cases hx), List.nodup_nil⟩
  | y :: l, s, h => by
    unfold scan at h
    split at h
    · cases h
    · rename_i h1
      split at h
      · cases h
      · rename_i h2
        obtain ⟨m, e1, e2, e3⟩ := scan_zero h
        refine ⟨(y.1.toNat, y.2) :: m, ?_, ?_, ?_⟩
        · rw [e1, List.map_cons]
          congr 1
          have : y = (y.1, y.2) := rfl
          rw [this]
          congr 1
          show y.1 = ((y.1.toNat : Nat) : Int)
          omega
        · intro x hx
          rcases List.mem_cons.1 hx with rfl | hx
          · refine ⟨by show y.1.toNat < homes; omega, Decidable.not_not.1 h2, ?_⟩
            show ((y.1.toNat : Nat) : Int) ∉ s
            rw [show ((y.1.toNat : Nat) : Int) = y.1 by omega]
            exact fun hm => h1 (.inr (.inr hm))
          · obtain ⟨a, b, c⟩ := e2 x hx
            exact ⟨a, b, fun hm => c (List.mem_append_left _ hm)⟩
        · rw [List.map_cons, List.nodup_cons]
          refine ⟨fun hm => ?_, e3⟩
          obtain ⟨x, hx, e⟩ := List.mem_map.1 hm
          have := (e2 x hx).2.2
          refine this (List.mem_append_right _ ?_)
          rw [List.mem_singleton]
          have e' : x.1 = y.1.toNat := e
          omega

theorem fitsE_zero {homes ring : Nat} {l : List (Int × Bytes)} (h : fitsE homes ring l = 0) (hl : l ≠ []) : ∃ m : Puts, l = m.map (fun x => ((x.1 : Int), x.2)) ∧ Fit ring homes m := by
  unfold fitsE at h
  split at h
  · rename_i h1; exact absurd h h1
  · rename_i h1
    split at h
    · cases h
    · rename_i h2
      obtain ⟨m, e1, e2, e3⟩ := scan_zero (Decidable.not_not.1 h1)
      have hlen : l.length = m.length := by rw [e1, List.length_map]
      refine ⟨m, e1, ?_, by omega, by omega, fun x hx => (e2 x hx).1, fun x hx => (e2 x hx).2.1, e3⟩
      cases m with
      | nil => exact absurd e1 hl
      | cons x m => simp

theorem scan_puts {homes : Nat} : ∀ {m : Puts} {s : List Int}, (∀ x, x ∈ m → x.1 < homes ∧ x.2.length = 512 ∧ (x.1 : Int) ∉ s) → (m.map (·.1)).Nodup → scan homes (m.map (fun x => ((x.1 : Int), x.2))) s = 0
  | [], _, _, _ => rfl
  | y :: m, s, h, hn => by
    have hy := h y (by simp)
    rw [List.map_cons] at hn ⊢
    rw [List.nodup_cons] at hn
    unfold scan
    rw [if_neg, if_neg (not_not_intro hy.2.1)]
    · refine scan_puts (fun x hx => ?_) hn.2
      obtain ⟨a, b, c⟩ := h x (by simp [hx])
      refine ⟨a, b, fun hm => ?_⟩
      rcases List.mem_append.1 hm with hm | hm
      · exact c hm
      · rw [List.mem_singleton] at hm
        have : x.1 = y.1 := by have := hm; omega
        exact hn.1 (by rw [← this]; exact List.mem_map.2 ⟨x, hx, rfl⟩)
    · rintro (h1 | h1 | h1)
      · have h1 : (y.1 : Int) < 0 := h1
        omega
      · have h1 : (homes : Int) ≤ (y.1 : Int) := h1
        have := hy.1
        omega
      · exact hy.2.2 h1

theorem fitsE_fit {homes ring : Nat} {m : Puts} (h : Fit ring homes m) : fitsE homes ring (m.map (fun x => ((x.1 : Int), x.2))) = 0 := by
  have h0 := scan_puts (s := []) (fun x hx => ⟨h.home x hx, h.len x hx, by simp⟩) h.nodup
  unfold fitsE
  rw [h0, if_neg (by simp), if_neg]
  have := h.most
  have := h.ring
  rw [List.length_map]
  omega

end Coffer
