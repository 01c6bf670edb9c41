import Derived.Test.YtgblfghgngfhdaaPureA
namespace Coffer

abbrev Img := Nat → Bytes

/-- A number as an int of 64 bits. -/
def wr (x : Int) : Int := (x + 9223372036854775808) % 18446744073709551616 - 9223372036854775808

/-- What a disk is. -/
structure DS where
  n : Nat
  last : Img
  wait : Nat → Option Bytes
  off : Bool
  armed : Int
  part : Nat
  way : Option Nat
  front : Bytes
  writes : Int
  lives : Nat

namespace DS

def cur (D : DS) : Img := fun i => (D.wait i).getD (D.last i)

def spend (D : DS) : DS := { D with armed := if 0 < D.armed then D.armed - 1 else D.armed }

def put (w : Nat → Option Bytes) (i : Nat) (b : Bytes) : Nat → Option Bytes := fun j => if j = i then some b else w j

/-- A write into a sector that there is, the power on. -/
def write (D : DS) (i : Nat) (b : Bytes) : Int × DS :=
  if D.armed = 0 then (8, { D with off := true, way := some i, front := b.take D.part })
  else (0, { D.spend with wait := put D.wait i b, writes := wr (D.writes + 1) })

/-- A flush, the power on. -/
def flush (D : DS) : Int × DS :=
  if D.armed = 0 then (8, { D with off := true })
  else (0, { D.spend with last := D.cur, wait := fun _ => none })

def waiting (D : DS) : List Nat := (List.range D.n).filter fun i => (D.wait i).isSome

/-- Of the first m that wait: is i kept? -/
def kept (ws : List Nat) (keep : List Bool) (m i : Nat) : Bool := (List.range m).any fun k => ws[k]? == some i && keep[k]? == some true

def base (D : DS) (keep : List Bool) (m : Nat) : Img := fun i => if kept D.waiting keep m i then D.cur i else D.last i

def over (I : Img) : Option Nat → Bytes → Img
  | none, _ => I
  | some w, f => fun i => if i = w then f ++ (I i).drop f.length else I i

def power (D : DS) (keep : List Bool) : DS :=
  { D with last := over (D.base keep D.waiting.length) D.way D.front, wait := fun _ => none, off := false, armed := -1, way := none, front := [], lives := D.lives + 1 }

def arm (D : DS) (n part : Int) : DS := { D with armed := max n (-1), part := (min (max part 0) 512).toNat }

def fresh (n : Nat) : DS := { n, last := fun _ => zeros, wait := fun _ => none, off := false, armed := -1, part := 0, way := none, front := [], writes := 0, lives := 0 }

/-- What the disk may hold when the power has come back. -/
def image (D : DS) (I : Img) : Prop := ∃ B : Img, (∀ i, B i = D.last i ∨ D.wait i = some (B i)) ∧ I = over B D.way D.front

def Crash (D : DS) (P : Img → Prop) : Prop := ∀ I, D.image I → P I

/-- The forms that hold of each disk. -/
structure Wf (D : DS) : Prop where
  least : 32 ≤ D.n
  most : D.n ≤ 4096
  last : ∀ i, i < D.n → (D.last i).length = 512
  wait : ∀ i b, D.wait i = some b → i < D.n ∧ b.length = 512
  part : D.part ≤ 512
  way : ∀ i, D.way = some i → i < D.n
  front : D.front.length ≤ 512
  armed : -1 ≤ D.armed

/-- The power is on, nothing is on its way. -/
structure On (D : DS) : Prop where
  wf : D.Wf
  off : D.off = false
  way : D.way = none

theorem kept_succ (ws : List Nat) (keep : List Bool) (m i : Nat) : kept ws keep (m + 1) i = (kept ws keep m i || (ws[m]? == some i && keep[m]? == some true)) := by
  simp [kept, List.range_succ]
theorem kept_zero (ws : List Nat) (keep : List Bool) (i : Nat) : kept ws keep 0 i = false := rfl

theorem base_zero (D : DS) (keep : List Bool) : D.base keep 0 = D.last := by funext i; simp [base, kept_zero]

theorem put_same (w : Nat → Option Bytes) (i : Nat) (b : Bytes) : put w i b i = some b := by simp [put]
theorem put_other (w : Nat → Option Bytes) {i j : Nat} (b : Bytes) (h : j ≠ i) : put w i b j = w j := by simp [put, h]

theorem cur_len {D : DS} (h : D.Wf) (i : Nat) (hi : i < D.n) : (D.cur i).length = 512 := by
  unfold cur
  cases hw : D.wait i with
  | none => exact h.last i hi
  | some b => exact (h.wait i b hw).2

theorem spend_wf {D : DS} (h : D.Wf) : D.spend.Wf :=
  ⟨h.least, h.most, h.last, h.wait, h.part, h.way, h.front, by have := h.armed; simp only [spend]; split <;> omega⟩

theorem write_wf {D : DS} (h : D.Wf) {i : Nat} {b : Bytes} (hi : i < D.n) (hb : b.length = 512) : (D.write i b).2.Wf := by
  unfold write
  split
  · exact ⟨h.least, h.most, h.last, h.wait, h.part, fun j e => by cases e; exact hi, by rw [List.length_take]; omega, h.armed⟩
  · refine ⟨h.least, h.most, h.last, fun j c e => ?_, h.part, h.way, h.front, (spend_wf h).armed⟩
    simp only [put] at e
    split at e
    · cases e; subst j; exact ⟨hi, hb⟩
    · exact h.wait j c e

theorem flush_wf {D : DS} (h : D.Wf) : D.flush.2.Wf := by
  unfold flush
  split
  · exact ⟨h.least, h.most, h.last, h.wait, h.part, h.way, h.front, h.armed⟩
  · exact ⟨h.least, h.most, fun i hi => cur_len h i hi, fun i b e => by simp at e, h.part, h.way, h.front, (spend_wf h).armed⟩

theorem cur_write {D : DS} {i : Nat} {b : Bytes} (h : (D.write i b).1 = 0) (j : Nat) : (D.write i b).2.cur j = if j = i then b else D.cur j := by
  unfold write at h ⊢
  split
  · rename_i h0; simp [h0] at h
  · simp only [cur, put, spend]
    split <;> rfl

theorem write_on {D : DS} (h : D.On) {i : Nat} {b : Bytes} (hi : i < D.n) (hb : b.length = 512) (h0 : (D.write i b).1 = 0) : (D.write i b).2.On := by
  refine ⟨write_wf h.wf hi hb, ?_, ?_⟩ <;> unfold write at h0 ⊢ <;> split <;> simp_all [spend, h.off, h.way]

theorem flush_on {D : DS} (h : D.On) (h0 : D.flush.1 = 0) : D.flush.2.On := by
  refine ⟨flush_wf h.wf, ?_, ?_⟩ <;> unfold flush at h0 ⊢ <;> split <;> simp_all [spend, h.off, h.way]

theorem write_err (D : DS) (i : Nat) (b : Bytes) : (D.write i b).1 = 0 ∨ (D.write i b).1 = 8 := by unfold write; split <;> simp
theorem flush_err (D : DS) : D.flush.1 = 0 ∨ D.flush.1 = 8 := by unfold flush; split <;> simp

theorem image_cur {D : DS} (h : D.way = none) : D.image D.cur := by
  refine ⟨D.cur, fun i => ?_, by rw [h]; rfl⟩
  unfold cur
  cases D.wait i <;> simp

def upd (I : Img) (i : Nat) (b : Bytes) : Img := fun j => if j = i then b else I j

theorem upd_same (I : Img) (i : Nat) (b : Bytes) : upd I i b i = b := by simp [upd]
theorem upd_other (I : Img) {i j : Nat} (b : Bytes) (h : j ≠ i) : upd I i b j = I j := by simp [upd, h]
theorem upd_upd (I : Img) (i : Nat) (b c : Bytes) : upd (upd I i b) i c = upd I i c := by funext j; simp only [upd]; split <;> rfl
theorem upd_self (I : Img) (i : Nat) : upd I i (I i) = I := by funext j; simp only [upd]; split <;> simp_all

/-- A write turns what may last just by tearing its sector. -/
theorem crash_write {D : DS} {P : Img → Prop} {i : Nat} {b : Bytes} (hd : D.On) (hi : i < D.n) (hb : b.length = 512) (hc : D.Crash P)
    (hP : ∀ I k, D.image I → P I → P (upd I i (tear (I i) b k))) : (D.write i b).2.Crash P := by
  intro I hI
  have hway := hd.way
  unfold write at hI
  split at hI
  · obtain ⟨B, hB, rfl⟩ := hI
    have hBi : D.image B := ⟨B, hB, by rw [hway]; rfl⟩
    have h1 := hP B (b.take D.part).length hBi (hc _ hBi)
    have e : upd B i (tear (B i) b (b.take D.part).length) = over B (some i) (b.take D.part) := by
      funext j
      simp only [upd, over]
      split
      · subst j
        unfold tear
        congr 1
        rw [List.length_take, List.take_eq_take_iff]
        omega
      · rfl
    rw [e] at h1
    exact h1
  · obtain ⟨B, hB, rfl⟩ := hI
    simp only [spend, hway, over] at hB ⊢
    rcases hB i with h | h
    · have hBi : D.image B := by
        refine ⟨B, fun j => ?_, by rw [hway]; rfl⟩
        by_cases hj : j = i
        · subst j; exact .inl h
        · have := hB j; rwa [put_other _ _ hj] at this
      exact hc _ hBi
    · simp only [put_same, Option.some.injEq] at h
      have hBi : D.image (upd B i (D.last i)) := by
        refine ⟨upd B i (D.last i), fun j => ?_, by rw [hway]; rfl⟩
        by_cases hj : j = i
        · subst j; exact .inl (upd_same _ _ _)
        · rw [upd_other _ _ hj]; have := hB j; rwa [put_other _ _ hj] at this
      have h1 := hP _ 512 hBi (hc _ hBi)
      rw [upd_same, tear_all (by rw [hd.wf.last i hi, hb]) (by omega), upd_upd, h, upd_self] at h1
      exact h1

theorem crash_flush {D : DS} {P : Img → Prop} (hd : D.On) (hc : D.Crash P) : D.flush.2.Crash P := by
  intro I hI
  unfold flush at hI
  split at hI
  · exact hc I hI
  · obtain ⟨B, hB, rfl⟩ := hI
    simp only [spend, hd.way, over, reduceCtorEq, or_false] at hB ⊢
    rw [show B = D.cur from funext hB]
    exact hc _ (image_cur hd.way)

theorem flush_last {D : DS} (h0 : D.flush.1 = 0) : D.flush.2.last = D.cur ∧ (D.flush.2.wait = fun _ => none) ∧ D.flush.2.cur = D.cur := by
  unfold flush at h0 ⊢
  split
  · rename_i h; simp [h] at h0
  · simp [spend]; funext i; simp [cur]

theorem image_quiet {D : DS} (hw : D.wait = fun _ => none) (hway : D.way = none) {I : Img} (h : D.image I) : I = D.last := by
  obtain ⟨B, hB, rfl⟩ := h
  rw [hway]
  funext i
  have := hB i
  simp [hw] at this
  exact this

theorem power_image (D : DS) (keep : List Bool) : D.image (D.power keep).last := by
  refine ⟨D.base keep D.waiting.length, fun i => ?_, rfl⟩
  unfold base cur
  split
  · cases D.wait i <;> simp
  · exact .inl rfl

theorem image_len {D : DS} (h : D.Wf) {I : Img} (hI : D.image I) (i : Nat) (hi : i < D.n) : (I i).length = 512 := by
  obtain ⟨B, hB, rfl⟩ := hI
  have hb : (B i).length = 512 := by
    rcases hB i with e | e
    · rw [e]; exact h.last i hi
    · exact (h.wait i _ e).2
  have hf := h.front
  cases D.way with
  | none => exact hb
  | some w =>
    simp only [over]
    split
    · simp; omega
    · exact hb

theorem power_wf {D : DS} (h : D.Wf) (keep : List Bool) : (D.power keep).Wf :=
  ⟨h.least, h.most, fun i hi => image_len h (power_image D keep) i hi, fun i b e => by simp [power] at e, h.part, fun i e => by simp [power] at e, by simp [power], by simp [power]⟩

theorem power_on {D : DS} (h : D.Wf) (keep : List Bool) : (D.power keep).On := ⟨power_wf h keep, rfl, rfl⟩

theorem arm_wf {D : DS} (h : D.Wf) (n part : Int) : (D.arm n part).Wf :=
  ⟨h.least, h.most, h.last, h.wait, by simp only [arm]; omega, h.way, h.front, by simp only [arm]; omega⟩

theorem fresh_wf {n : Nat} (h : 32 ≤ n) (h' : n ≤ 4096) : (fresh n).Wf where
  least := h
  most := h'
  last := fun _ _ => zeros_length
  wait := fun _ _ e => nomatch e
  part := Nat.zero_le _
  way := fun _ e => nomatch e
  front := Nat.zero_le _
  armed := Int.le_refl _

/-! Scripts: writes and flushes till one fails. -/

inductive Cmd where
  | w (i : Nat) (b : Bytes)
  | f

def step (D : DS) : Cmd → Int × DS
  | .w i b => D.write i b
  | .f => D.flush

def run (D : DS) : List Cmd → Int × DS
  | [] => (0, D)
  | c :: cs => if (D.step c).1 = 0 then run (D.step c).2 cs else D.step c

theorem run_ok {D : DS} {c : Cmd} {l : List Cmd} (h : (D.step c).1 = 0) : D.run (c :: l) = (D.step c).2.run l := by simp only [run, h, if_true]
theorem run_no {D : DS} {c : Cmd} {l : List Cmd} (h : (D.step c).1 ≠ 0) : D.run (c :: l) = D.step c := by simp only [run, h, if_false]

theorem run_append (D : DS) (a b : List Cmd) : D.run (a ++ b) = if (D.run a).1 = 0 then (D.run a).2.run b else D.run a := by
  induction a generalizing D with
  | nil => simp [run]
  | cons c a ih =>
    simp only [List.cons_append, run]
    by_cases h : (D.step c).1 = 0
    · simp only [h, if_true, ih]
    · simp only [h, if_false]

theorem step_err (D : DS) (c : Cmd) : (D.step c).1 = 0 ∨ (D.step c).1 = 8 := by
  cases c with
  | w i b => exact write_err D i b
  | f => exact flush_err D

theorem run_err (D : DS) (l : List Cmd) : (D.run l).1 = 0 ∨ (D.run l).1 = 8 := by
  induction l generalizing D with
  | nil => exact .inl rfl
  | cons c l ih =>
    simp only [run]
    split
    · exact ih _
    · exact step_err D c

def writes' (ws : List (Nat × Bytes)) : List Cmd := ws.map fun x => .w x.1 x.2

def puts (I : Img) : List (Nat × Bytes) → Img
  | [] => I
  | x :: ws => puts (upd I x.1 x.2) ws

/-- What fails to happen leaves the power off; else the disk goes on. -/
structure Ran (D D' : DS) (e : Int) : Prop where
  n : D'.n = D.n
  lives : D'.lives = D.lives
  wf : D'.Wf
  ok : e = 0 → D'.On
  dead : e ≠ 0 → D'.off = true

theorem step_ran {D : DS} (hd : D.On) (c : Cmd) (h : ∀ i b, c = .w i b → i < D.n ∧ b.length = 512) : Ran D (D.step c).2 (D.step c).1 := by
  cases c with
  | w i b =>
    obtain ⟨hi, hb⟩ := h i b rfl
    refine ⟨?_, ?_, write_wf hd.wf hi hb, fun e => write_on hd hi hb e, fun e => ?_⟩ <;> simp only [step] at * <;> unfold write at * <;> split <;> simp_all [spend]
  | f =>
    refine ⟨?_, ?_, flush_wf hd.wf, fun e => flush_on hd e, fun e => ?_⟩ <;> simp only [step] at * <;> unfold flush at * <;> split <;> simp_all [spend]

theorem Ran.trans {A B C : DS} {e : Int} (h : Ran A B 0) (k : Ran B C e) : Ran A C e :=
  ⟨k.n.trans h.n, k.lives.trans h.lives, k.wf, k.ok, k.dead⟩

theorem run_ran {D : DS} (hd : D.On) (l : List Cmd) (h : ∀ i b, Cmd.w i b ∈ l → i < D.n ∧ b.length = 512) : Ran D (D.run l).2 (D.run l).1 := by
  induction l generalizing D with
  | nil => exact ⟨rfl, rfl, hd.wf, fun _ => hd, fun e => absurd rfl e⟩
  | cons c l ih =>
    have h1 := step_ran hd c (fun i b e => h i b (by simp [e]))
    simp only [run]
    split
    · rename_i h0
      rw [h0] at h1
      exact h1.trans (ih (h1.ok rfl) (fun i b hm => by rw [h1.n]; exact h i b (by simp [hm])))
    · exact h1

/-- An armed count below zero: nothing fails. -/
theorem step_unarmed {D : DS} (h : D.armed < 0) (c : Cmd) : (D.step c).1 = 0 ∧ (D.step c).2.armed = D.armed := by
  cases c <;> simp only [step, write, flush, spend] <;> rw [if_neg (by omega)] <;> simp <;> omega

theorem run_unarmed {D : DS} (h : D.armed < 0) (l : List Cmd) : (D.run l).1 = 0 ∧ (D.run l).2.armed = D.armed := by
  induction l generalizing D with
  | nil => exact ⟨rfl, rfl⟩
  | cons c l ih =>
    obtain ⟨h1, h2⟩ := step_unarmed h c
    simp only [run, h1, if_true]
    obtain ⟨h3, h4⟩ := ih (D := (D.step c).2) (by omega)
    exact ⟨h3, h4.trans h2⟩

/-- Many writes: what may last is what a part of them has torn. -/
theorem crash_writes {P : Img → Prop} (ws : List (Nat × Bytes)) : ∀ {D : DS}, D.On → D.Crash P → (∀ x, x ∈ ws → x.1 < D.n ∧ x.2.length = 512) →
    (∀ x, x ∈ ws → ∀ I k, (∀ i, i < D.n → (I i).length = 512) → P I → P (upd I x.1 (tear (I x.1) x.2 k))) →
    (D.run (writes' ws)).2.Crash P ∧ ((D.run (writes' ws)).1 = 0 → (D.run (writes' ws)).2.cur = puts D.cur ws) := by
  induction ws with
  | nil => intro D _ hc _ _; exact ⟨hc, fun _ => rfl⟩
  | cons x ws ih =>
    intro D hd hc hw hP
    have hx := hw x (by simp)
    have h1 := crash_write hd hx.1 hx.2 hc (fun I k hI hPI => hP x (by simp) I k (image_len hd.wf hI) hPI)
    have hr := step_ran hd (.w x.1 x.2) (fun i b e => by cases e; exact hx)
    have hl : writes' (x :: ws) = .w x.1 x.2 :: writes' ws := rfl
    rw [hl]
    by_cases h0 : (D.step (.w x.1 x.2)).1 = 0
    · rw [run_ok h0]
      rw [h0] at hr
      have h2 := ih (D := (D.step (.w x.1 x.2)).2) (hr.ok rfl) h1 (fun y hy => by rw [hr.n]; exact hw y (by simp [hy]))
        (fun y hy I k hI hPI => hP y (by simp [hy]) I k (fun i hi => hI i (by rw [hr.n]; exact hi)) hPI)
      refine ⟨h2.1, fun e => ?_⟩
      rw [h2.2 e]
      simp only [puts]
      congr 1
      funext j
      exact cur_write h0 j
    · rw [run_no h0]
      exact ⟨h1, fun e => absurd e h0⟩

end DS
end Coffer
