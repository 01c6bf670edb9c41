import Derived.Test.YtgblfghgngfhdaaLn
namespace Coffer
/-- The same bytes, into the first m sectors. -/
def fillL (m : Nat) (b : Bytes) : Puts := (List.range m).map fun i => (i, b)
theorem fillL_length (m : Nat) (b : Bytes) : (fillL m b).length = m := by simp [fillL]
theorem fillL_mem {m : Nat} {b : Bytes} {x : Nat × Bytes} (h : x ∈ fillL m b) : x.1 < m ∧ x.2 = b := by
  obtain ⟨i, hi, rfl⟩ := List.mem_map.1 h
  exact ⟨List.mem_range.1 hi, rfl⟩
theorem fillL_fit {ring homes m : Nat} {b : Bytes} (h1 : 1 ≤ m) (h2 : m ≤ 40) (h3 : m < ring) (h4 : m ≤ homes) (hb : b.length = 512) : Fit ring homes (fillL m b) := by
  refine ⟨by rw [fillL_length]; exact h1, by rw [fillL_length]; exact h2, by rw [fillL_length]; exact h3, fun x hx => ?_, fun x hx => ?_, ?_⟩
  · have := (fillL_mem hx).1; omega
  · rw [(fillL_mem hx).2]; exact hb
  · unfold fillL
    rw [List.map_map]
    have : (List.range m).map ((fun x : Nat × Bytes => x.1) ∘ fun i => (i, b)) = List.range m := by
      conv => rhs; rw [← List.map_id (List.range m)]
      apply List.map_congr_left
      intro i _; rfl
    rw [this]
    exact List.nodup_range
end Coffer
namespace Go.Proofs.Ytgblfghgngfhdaa
open Coffer Go.RowKit

section
variable {w0 w : World} {k : Blk} {n ring B T L : Nat} {V : Nat → Bytes} {J : JS} {D : DS} {c : List Puts}

/-- A row of such lists under way: the same bytes each. -/
def PsRow (w : World) (base : Nat) (v bv : Value) (m : Nat) : Prop :=
  ∃ xs, w.ownsRow base 70 3 v m xs ∧ ∀ j, j < m → xs[j * 3]? = some (.int .i64 (j : Nat)) ∧ xs[j * 3 + 1]? = some bv ∧ xs[j * 3 + 2]? = some (.bool false)

theorem PsRow.nil (w : World) (base : Nat) (bv : Value) : PsRow w base (.slice none 0 0) bv 0 := ⟨[], World.ownsRow_nil _ _ _ _, fun j h => by omega⟩

theorem PsRow.fr0 {w' : World} {base m : Nat} {v bv : Value} (h : PsRow w base v bv m) (hf : Fr [] w w') : PsRow w' base v bv m := by
  obtain ⟨xs, ⟨hlen, hrow⟩, hx⟩ := h
  refine ⟨xs, ⟨hlen, ?_⟩, hx⟩
  rcases hrow with h0 | ⟨g, cap, cur, rfl, hbg, hg, h1, h2, h3, h4⟩
  · exact .inl h0
  · exact .inr ⟨g, cap, cur, rfl, hbg, (hf.block g (lt_of_heap hg) (by simp)).trans hg, h1, h2, h3, h4⟩

theorem PsRow.own {base m : Nat} {v bv : Value} (h : PsRow w base v bv m) : NoB [] w (rowOf v) ∧ ∀ s, s ∈ rowOf v → base ≤ s := by
  obtain ⟨xs, ⟨hlen, hrow⟩, hx⟩ := h
  rcases hrow with ⟨rfl, _⟩ | ⟨g, cap, cur, rfl, hbg, hg, h1, h2, h3, h4⟩
  · exact ⟨(fun s hs => by cases hs), (fun s hs => by cases hs)⟩
  · refine ⟨fun s hs => ?_, fun s hs => ?_⟩
    · simp only [rowOf, Value.ownBlock, List.mem_singleton] at hs
      subst hs
      exact ⟨lt_of_heap hg, .inr fun c f e => by rw [hg] at e; cases e⟩
    · simp only [rowOf, Value.ownBlock, List.mem_singleton] at hs
      subst hs
      exact hbg

theorem PsRow.push {base m : Nat} {v : Value} {ba : Option Addr} {bn bc : Nat} (h : PsRow w base v (.slice ba bn bc) m) (hl : m ≤ 1000) (hbase : base ≤ w.heap.size) :
    ∃ v' w', (Builtin.append_ #[58, 58] 58 #[v, .slice (some ⟨w.heap.size, 0, none⟩) 1 1]).run Try.prog (w.alloc (.cells #[.int .i64 (m : Nat), .slice ba bn bc, .bool false] 70)) = .ok v' w' ∧ PsRow w' base v' (.slice ba bn bc) (m + 1) ∧ Fr (rowOf v) w w' := by
  obtain ⟨inf, i1, i2, i3, i4⟩ := info_parts (P := Try.prog) (e := 70) (z := .agg #[.int .i64 0, .slice none 0 0, .bool false]) (size := 3) (bytes := 40) (by kernel_rfl)
  have hF := Fr.alloc [] w (.cells #[.int .i64 (m : Nat), .slice ba bn bc, .bool false] 70)
  have hbox := heap_alloc_new w (.cells #[.int .i64 (m : Nat), .slice ba bn bc, .bool false] 70)
  have h1 := h.fr0 hF
  obtain ⟨xs, hrow, hx⟩ := h1
  have hxl := hrow.1
  obtain ⟨v', w', a1, a2, a3, a4⟩ := run_append_own (P := Try.prog) (w.alloc (.cells #[.int .i64 (m : Nat), .slice ba bn bc, .bool false] 70)) base 58 58 70 inf (.agg #[.int .i64 0, .slice none 0 0, .bool false]) 3 40 Try.underlying58 i1 i2 i3 i4 rfl (by decide) v m xs hrow ⟨w.heap.size, 0, none⟩ 1 1 [.int .i64 (m : Nat), .slice ba bn bc, .bool false]
    rfl (fun j y hj => by
      match j, hj with
      | 0, hj => cases hj; show World.cell? _ ⟨w.heap.size, 0, none⟩ = _; rw [cell_of hbox]; rfl
      | 1, hj => cases hj; show World.cell? _ ⟨w.heap.size, 1, none⟩ = _; rw [cell_of hbox]; rfl
      | 2, hj => cases hj; show World.cell? _ ⟨w.heap.size, 2, none⟩ = _; rw [cell_of hbox]; rfl
      | j + 3, hj => simp at hj) (by intro y hy; simp at hy; rcases hy with rfl | rfl | rfl <;> rfl) (by simp only [maxLen]; omega) (by omega) (Nat.le_trans hbase hF.size)
  refine ⟨v', w', a1, ⟨_, a2, fun j hj => ?_⟩, hF.nil.trans (Fr.of_grownBy a3 (fun k hk => by left; unfold rowOf; rw [hk]; simp))⟩
  by_cases hjm : j < m
  · obtain ⟨b1, b2, b3⟩ := hx j hjm
    rw [List.getElem?_append_left (by omega), List.getElem?_append_left (by omega), List.getElem?_append_left (by omega)]
    exact ⟨b1, b2, b3⟩
  · have hje : j = m := by omega
    subst hje
    rw [List.getElem?_append_right (by omega), List.getElem?_append_right (by omega), List.getElem?_append_right (by omega), show j * 3 - xs.length = 0 by omega, show j * 3 + 1 - xs.length = 1 by omega, show j * 3 + 2 - xs.length = 2 by omega]
    exact ⟨rfl, rfl, rfl⟩

theorem PsRow.ps {base m : Nat} {v bv : Value} {b : Bytes} (h : PsRow w base v bv m) (hb : SrcAt w bv b) (hm : m ≤ 1000000) : PsAt w v ((List.range m).map fun i : Nat => ((i : Int), b, false)) := by
  obtain ⟨xs, ⟨hlen, hrow⟩, hx⟩ := h
  have hl : ((List.range m).map fun i : Nat => ((i : Int), b, false)).length = m := by simp
  rcases hrow with ⟨rfl, h0⟩ | ⟨g, cap, cur, rfl, _, hg, _, _, _, htake⟩
  · subst h0
    exact ⟨none, 0, rfl, fun h => absurd h (by simp)⟩
  · refine ⟨_, _, by rw [hl], fun _ => ⟨g, 0, rfl, lt_of_heap hg, fun j x hj => ?_⟩⟩
    have hjm : j < m := by have := (List.getElem?_eq_some_iff.1 hj).1; rw [hl] at this; exact this
    rw [List.getElem?_map, List.getElem?_range hjm] at hj
    cases hj
    obtain ⟨b1, b2, b3⟩ := hx j hjm
    have get : ∀ i y, xs[i]? = some y → cur[i]? = some y := fun i y hi => by
      rw [← htake, List.getElem?_take] at hi
      split at hi
      · simpa using hi
      · cases hi
    refine ⟨⟨by show -9223372036854775808 ≤ (j : Int); omega, by show (j : Int) ≤ _; omega⟩, ?_, ?_, bv, ?_, hb⟩
    · rw [cell_of hg, Nat.zero_add]; exact get _ _ b1
    · rw [cell_of hg, Nat.zero_add]; exact get _ _ b3
    · rw [cell_of hg, Nat.zero_add]; exact get _ _ b2

theorem listOf_fill (m : Nat) (b : Bytes) : listOf ((List.range m).map fun i : Nat => ((i : Int), b, false)) = toI (fillL m (whole b)) := by
  unfold listOf toI fillL
  rw [List.map_map, List.map_map]
  rfl

/-- A commit that has room: what is away then. -/
theorem commit_room (h : JL w0 w k n ring B V T L J D c) {v : Value} {l : Puts} (hv : PutsAt [] w v (toI l)) (hF : Fit ring (n - 2 - ring) l) (hT : T + 1 < 4611686018427387904) (hB : B + 2 ≤ 4611686018427387904) (ha : D.armed < 0) (hroom : J.used + 1 + l.length ≤ ring) :
    Calls Try.prog 27 #[.pointer (some ⟨k.pj, 0, none⟩), v] w (fun e w' => e = .returned (.int .i64 0) ∧ Fr k.all w w' ∧ ∃ J' D', JL w0 w' k n ring B (putV V l) (T + 1) L J' D' (c ++ [l]) ∧ D'.armed < 0) := by
  have hr := h.lv.dring
  have hcm : J.commit D l = J.commit0 D l := by unfold JS.commit; rw [if_neg (by omega)]
  have hun := JS.commit0_unarmed (J := J) (l := l) ha
  have hl := (h.lv.commit0 hF hroom (by omega)).resolve_right (fun hx => by rw [hun.1] at hx; exact absurd hx.1 (by decide))
  have := commit_calls h.jd h.lv hv hF hT (by omega) (fun x hx => by cases hx)
  rw [hcm] at this
  refine this.mono ?_
  rintro e w' ⟨rfl, hj, hf⟩
  refine ⟨by rw [hun.1], hf, _, _, ⟨hj, hl.2, ?_, h.new.fr h.fr hf, h.new⟩, by rw [hun.2]; exact ha⟩
  have h1 := hl.2.live.lives
  have h2 := JS.commit_lives J D l
  rw [hcm] at h2
  rw [h1, h2, ← h.lv.live.lives]
  exact h.lives

theorem ck_L (h : JL w0 w k n ring B V T L J D c) (ha : D.armed < 0) (hB : B + 2 ≤ 4611686018427387904) :
    Calls Try.prog 32 #[.pointer (some ⟨k.pj, 0, none⟩)] w (fun e w' => e = .returned (.int .i64 0) ∧ Fr k.all w w' ∧ ∃ J' D', JL w0 w' k n ring (B + 1) V T L J' D' [] ∧ D'.armed < 0 ∧ (c = [] → D' = D)) := by
  refine (ck_calls h.jd h.lv.live.done h.lv.live.lives h.lv.live.quiet.on (by have := h.lv.num; omega) (fun x hx => by cases hx)).mono ?_
  rintro e w' ⟨rfl, hj, hf⟩
  have hun := DS.run_unarmed ha (J.ckCmds D.n)
  rw [hun.1] at hj
  refine ⟨by rw [hun.1], hf, ?_⟩
  by_cases hc : c = []
  · subst hc
    have hk : awayKeys J.away D.n = [] := (awayKeys_nil h.jd.away_lt).2 (fun i => by rw [h.lv.live.away]; rfl)
    have e1 : J.ckCmds D.n = [] := by unfold JS.ckCmds; rw [if_pos hk]
    have e2 : J.ckDone D.n = J := by unfold JS.ckDone; rw [if_pos hk]
    rw [e1, e2] at hj
    exact ⟨J, D, ⟨hj, h.lv.mono (Nat.le_succ B), h.lives, h.new.fr h.fr hf, h.new⟩, ha, fun _ => rfl⟩
  · have hk : awayKeys J.away D.n ≠ [] := fun e => by
      obtain ⟨i, hi⟩ := awayOf_ne hc h.lv.live.good.chain.fit
      obtain ⟨b, hb⟩ := Option.isSome_iff_exists.1 hi
      have := (h.lv.live.good.away hb).1
      have : i ∈ awayKeys J.away D.n := awayKeys_mem.2 ⟨by omega, by rw [h.lv.live.away]; exact hi⟩
      rw [e] at this
      cases this
    have e1 : J.ckCmds D.n = J.settleCmds D.n := by unfold JS.ckCmds; rw [if_neg hk]
    have e2 : J.ckDone D.n = J.settled := by unfold JS.ckDone; rw [if_neg hk]
    rw [e1] at hun
    rw [e1, e2] at hj
    have hs := (h.lv.settle (by omega)).1 hun.1
    refine ⟨_, _, ⟨hj, hs, ?_, h.new.fr h.fr hf, h.new⟩, by rw [hun.2]; exact ha, fun e => absurd e hc⟩
    rw [hs.live.lives]
    show J.lives ≤ L
    rw [← h.lv.live.lives]
    exact h.lives

theorem free_L (h : JL w0 w k n ring B V T L J D c) : Calls Try.prog 34 #[.pointer (some ⟨k.pj, 0, none⟩)] w (RetQ w (.int .i64 ((ring - total c : Nat) : Int))) := by
  have := free_calls h.jd
  rw [h.lv.dring, h.lv.live.used] at this
  exact this
end
end Go.Proofs.Ytgblfghgngfhdaa
