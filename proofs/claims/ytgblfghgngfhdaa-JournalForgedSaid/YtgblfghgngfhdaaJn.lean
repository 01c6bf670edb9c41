import Derived.Test.YtgblfghgngfhdaaJm
import Derived.Deep.DeepCutAuto
namespace Go.Proofs.Ytgblfghgngfhdaa
open Coffer Go.RowKit

section
variable {X : List Nat} {w : World} {pj ba p bl bm : Nat} {J : JS} {D : DS}

/-- append whose run is known, as one step of a region that draws. -/
theorem step_append_run {P : Program} {ops : Array Oper} {o : Oper} {a : Act} {w : World} {K : Act → World → Prop} {Q : Exit → Act → World → Prop} {E : Prop} (hg : o.guard = none) (s x : Operand) (t : TypeId)
    (hop : o.op = Op.call { callee := Callee.builtin Builtin.append, args := #[s, x], argTypes := #[t, t] }) (ty : TypeId) (hty : o.type = ty) (vs vx : Value) (hs : a.eval s = vs) (hx : a.eval x = vx) {v : Value} {w' : World}
    (hrun : (Builtin.append_ #[t, t] ty #[vs, vx]).run P w = .ok v w') (hK : K (a.put o.dst v) w') : if Region.wanted o (yielded ops a.tmps) = true then Oper.wp P o a w K Q else E := by
  have hw : Region.wanted o (yielded ops a.tmps) = true := by simp [Region.wanted, hg]
  rw [if_pos hw]
  subst hty
  unfold Oper.wp execOp
  simp only [hop, resolve, invoke, builtin, Sem.run_bind, Sem.run_pure, Result.andThen_ok, List.map_toArray, List.map_cons, List.map_nil, hs, hx, hrun]
  exact hK

def CommitQ (X : List Nat) (w : World) (pj ba p bl bm : Nat) (r : Int × JS × DS) (e : Ending) (w' : World) : Prop :=
  e = .returned (.int .i64 r.1) ∧ JD X w' pj ba p bl bm r.2.1 r.2.2 ∧ Fr [p, bl, bm, pj, ba] w w'

/-- There is room for l. -/
def RoomRel (X : List Nat) (w : World) (pj ba p bl bm : Nat) (J : JS) (D : DS) (v : Value) (l : Puts) (wx : World) : Prop :=
  ∃ J1 D1, JD X wx pj ba p bl bm J1 D1 ∧ J1.done = false ∧ D1.On ∧ D1.n = D.n ∧ J1.ring = J.ring ∧ J1.turn = J.turn ∧ J1.used + (1 + l.length) ≤ J1.ring ∧ J.commit D l = J1.commit0 D1 l ∧ Fr [p, bl, bm, pj, ba] w wx ∧ PutsAt X wx v (toI l)

theorem LV.ck {n ring B T : Nat} {V : Nat → Bytes} {c : List Puts} {l : Puts} (h : LV n ring B V T J D c) (hf : Fit ring (n - 2 - ring) l) (hroom : J.ring - J.used < l.length + 1) : awayKeys J.away D.n ≠ [] := by
  intro e
  have hc : c ≠ [] := fun e => by
    subst e
    have := h.live.used
    have := hf.ring
    have := h.dring
    simp only [total] at *
    omega
  have hg := h.live.good
  obtain ⟨i, hi⟩ := awayOf_ne hc hg.chain.fit
  obtain ⟨b, hb⟩ := Option.isSome_iff_exists.1 hi
  have := (hg.away hb).1
  have : i ∈ awayKeys J.away D.n := awayKeys_mem.2 ⟨by omega, by rw [h.live.away]; exact hi⟩
  rw [e] at this
  cases this

theorem BytesAt.takeSrc {k n c m : Nat} {l : Bytes} (h : BytesAt w (.slice (some ⟨k, 0, none⟩) n c) l) (hm : m ≤ l.length) : SrcAt w (.slice (some ⟨k, 0, none⟩) m c) (l.take m) := by
  have hle := h.le
  obtain ⟨k', cur, e, hk, hc⟩ := h
  cases e
  have := hle k cur rfl
  have e1 : (l.take m).length = m := by rw [List.length_take]; omega
  refine ⟨_, _, by rw [e1], by rw [e1]; omega, fun _ => ⟨k, 0, rfl, lt_of_heap hk, fun j b hj => ?_⟩⟩
  rw [List.getElem?_take] at hj
  split at hj
  · rw [cell_of hk, Nat.zero_add]; exact hc _ _ hj
  · cases hj

def Clone5Q (w : World) (l : Bytes) (e : Ending) (w' : World) : Prop :=
  ∃ k cap, e = .returned (.slice (some ⟨k, 0, none⟩) 512 cap) ∧ BytesAt w' (.slice (some ⟨k, 0, none⟩) 512 cap) l ∧ Fr [] w w' ∧ w.heap.size ≤ k ∧ 512 ≤ cap

theorem clone512 {v : Value} {l : Bytes} (hs : SrcAt w v l) (hl : l.length = 512) : Calls Try.prog 81 #[v] w (Clone5Q w l) := by
  refine (clone_calls hs (by omega)).mono ?_
  rintro e w' ⟨u, rfl, h1, h2, h3⟩
  rcases h1 with ⟨h, _⟩ | h
  · rw [h] at hl; cases hl
  · obtain ⟨k, cur, e, _, _⟩ := id h
    have := h.le k cur e
    rw [hl] at e
    subst e
    exact ⟨k, cur.size, rfl, h, h2, h3 k 0 _ _ rfl, by omega⟩

/-- The head of a round. -/
def CRel (X : List Nat) (wb : World) (pj ba p bl bm kh hc : Nat) (J : JS) (D : DS) (v : Value) (l : Puts) (k : Nat) (v10 : Value) (wr : World) : Prop :=
  (D.run ((J.commitCmds l).take (k + 1))).1 = 0 ∧ (D.run ((J.commitCmds l).take (k + 1))).2.On ∧ (D.run ((J.commitCmds l).take (k + 1))).2.n = D.n ∧
    CM (kh :: X) wb wr pj ba p bl bm kh hc J (D.run ((J.commitCmds l).take (k + 1))).2 (hdrTo J.turn l k) v10 (l.take k) v l

set_option maxRecDepth 100000 in
set_option maxHeartbeats 3200000 in
theorem commit_calls (h : JD X w pj ba p bl bm J D) {n ring B T : Nat} {V : Nat → Bytes} {c : List Puts} (hlv : LV n ring B V T J D c) {v : Value} {l : Puts} (hv : PutsAt X w v (toI l)) (hF : Fit ring (n - 2 - ring) l)
    (hT : T + 1 < 4611686018427387904) (hB : B + 1 ≤ 4611686018427387904) (hX : ∀ x, x ∈ X → x < w.heap.size) :
    Calls Try.prog 27 #[.pointer (some ⟨pj, 0, none⟩), v] w (CommitQ X w pj ba p bl bm (J.commit D l)) := by
  have hmay := mayJ_zero hlv.live.done hlv.live.lives
  have HM := Lib.hid (mayJ_calls h)
  rw [hmay] at HM
  have hho : ((J.homes D.n : Nat) : Int) = ((n - 2 - ring : Nat) : Int) := by unfold JS.homes; rw [hlv.dn, hlv.dring]
  have HFt := Lib.hid (fun (W : World) (hf : Fr [] w W) => fits_calls (h.fr0 hf) (hv.fr0 hf) (by rw [toI_length]; have := hF.most; omega))
  have hfit : fitsE ((J.homes D.n : Nat) : Int) J.ring (toI l) = 0 := by rw [hho, hlv.dring]; exact fitsE_fit hF
  rw [hfit] at HFt
  have HFree := Lib.hid (fun (W : World) (hf : Fr [] w W) => free_calls (h.fr0 hf))
  have HCk := Lib.hid (fun (W : World) (hf : Fr [] w W) => ck_calls (h.fr0 hf) hlv.live.done hlv.live.lives hlv.live.quiet.on (by have := hlv.num; omega) (fun x hx => Nat.lt_of_lt_of_le (hX x hx) hf.size))
  have H := Lib.hid h
  have HV := Lib.hid hv
  have HLV := Lib.hid hlv
  have HFi := Lib.hid hF
  have HX := Lib.hid hX
  have hring := h.2.2.1.ringMost
  have hl1 := hF.pos
  have hl2 := hF.most
  have htC : (J.turn : Int) < 4611686018427387903 := by have := hlv.turn; omega
  have HT := Lib.hid hT
  have HLT : Hid (J.turn = T) := hlv.turn
  have HJR0 : Hid (J.ring = ring ∧ D.n = n) := ⟨hlv.dring, hlv.dn⟩
  have HLV' : Hid (n ≤ 4096) := by have := h.1.1.most; rw [hlv.dn] at this; exact this
  obtain ⟨va, vc, rfl⟩ := hv.slice
  rw [toI_length] at HFt HV ⊢
  have hul : J.used ≤ J.ring := h.2.2.1.used
  generalize hL : l.length = L at *
  have HLen := Lib.hid hL
  have hd0 : ((L : Int) == 0) = false := by rw [beq_eq_false_iff_ne]; omega
  clear h hv hlv hF hX hmay hho hfit hT hL
  go_enter Try.func27, Try.ntmps27
  generalize (4611686018427387903 : Int) = C at *
  go_upto_if 44 with (first
    | (go_at_call 75; refine HM.out.mono ?_; rintro e w1 ⟨rfl, hf1⟩; have HFt1 := Lib.hid (HFt.out w1 hf1))
    | (go_at_call 76; refine HFt1.out.mono ?_; rintro e w2 ⟨rfl, hf2⟩; have HF2 := Lib.hid (hf1.trans hf2); have hc2 := (H.out.fr0 HF2.out).2.1.cells; have c7 := hc2.c7; clear hc2; have HFree2 := Lib.hid (HFree.out w2 HF2.out))
    | (go_at_call 34; refine HFree2.out.mono ?_; rintro e w3 ⟨rfl, hf3⟩; have HF3 := Lib.hid (HF2.out.trans hf3)))
  have HCk3 := Lib.hid (HCk.out w3 HF3.out)
  go_cut [] (fun wx => RoomRel X w pj ba p bl bm J D (.slice va L vc) l wx)
  case first =>
    by_cases hroom : J.ring - J.used < L + 1
    · have hri : ((J.ring - J.used : Nat) : Int) < (L : Int) + 1 := by omega
      have hkeys := LV.ck HLV.out HFi.out (by rw [HLen.out]; exact hroom)
      have hcm : J.ckCmds D.n = J.settleCmds D.n := by unfold JS.ckCmds; rw [if_neg hkeys]
      have hcd : J.ckDone D.n = J.settled := by unfold JS.ckDone; rw [if_neg hkeys]
      have hres : J.commit D l = if (D.run (J.settleCmds D.n)).1 = 0 then J.settled.commit0 (D.run (J.settleCmds D.n)).2 l else ((D.run (J.settleCmds D.n)).1, J.err (D.run (J.settleCmds D.n)).1, (D.run (J.settleCmds D.n)).2) := by
        unfold JS.commit; rw [if_pos (by rw [HLen.out]; exact hroom)]
      have hset := HLV.out.settle hB
      have herr := DS.run_err D (J.settleCmds D.n)
      have HCk4 := HCk3
      unfold CkQ at HCk4
      rw [hcm, hcd] at HCk4
      have HRes := Lib.hid hres
      have HSet := Lib.hid hset
      clear hkeys hcm hcd hroom hres hset HCk3
      generalize D.run (J.settleCmds D.n) = r at *
      obtain ⟨E, D4⟩ := r
      simp only at herr HRes HSet HCk4
      go_wp2_with fail
      refine HCk4.out.mono ?_
      rintro e w4 ⟨rfl, hj4, hf4⟩
      have HF4 : Hid (Fr [p, bl, bm, pj, ba] w w4) := HF3.out.nil.trans hf4
      have HJ4 := Lib.hid hj4
      have HP4 := Lib.hid ((HV.out.fr0 HF3.out).fr hf4 ((H.out.fr0 HF3.out).noB.weak) ((H.out.fr0 HF3.out).noP))
      clear hj4 hf4
      rcases herr with rfl | rfl
      · have HL4 := Lib.hid (HSet.out.1 rfl)
        go_wp2_with fail
        go_meet
        have hrg := HFi.out.ring
        have hrg2 := HLV.out.dring
        have hres2 : J.commit D l = J.settled.commit0 D4 l := by rw [HRes.out]; simp
        have hju : J.settled.used + (1 + l.length) ≤ J.settled.ring := by show 0 + (1 + l.length) ≤ J.ring; omega
        exact ⟨J.settled, D4, HJ4.out, HLV.out.live.done, HL4.out.live.quiet.on, HL4.out.dn.trans HLV.out.dn.symm, rfl, rfl, hju, hres2, HF4.out, HP4.out⟩
      · go_wp2_with fail
        go_ret
        have hres2 : J.commit D l = (8, J.err 8, D4) := by rw [HRes.out]; simp
        rw [hres2]
        exact ⟨rfl, HJ4.out, HF4.out⟩
    · have hri : (L : Int) + 1 ≤ ((J.ring - J.used : Nat) : Int) := by omega
      have hres : J.commit D l = J.commit0 D l := by unfold JS.commit; rw [if_neg (by rw [HLen.out]; exact hroom)]
      have HRes := Lib.hid hres
      have hu := HLV.out.live.used
      go_wp2_with fail
      go_meet
      exact ⟨J, D, H.out.fr0 HF3.out, HLV.out.live.done, HLV.out.live.quiet.on, rfl, rfl, rfl, by rw [HLen.out]; omega, HRes.out, HF3.out.nil, HV.out.fr0 HF3.out⟩
  case rest =>
    obtain ⟨wb, rfl⟩ : ∃ wb : World, wb = wc := ⟨_, rfl⟩
    obtain ⟨J1, D1, hj1, hdn, hon, hn1, hrg1, htn1, hus1, hres1, hfc, hp1⟩ := hcut
    have hXc : ∀ x, x ∈ X → x < wb.heap.size := fun x hx => Nat.lt_of_lt_of_le (HX.out x hx) hfc.size
    have hO := hj1.2.2.1
    have hplace := hO.place
    have hhomes := hO.homes
    have hring1 := hO.ringMost
    have hat0 := atr_lt (show 0 < J1.ring by omega) J1.place
    have hnm := hj1.1.1.most
    have hmk := run_make512
    have hz : BytesAt (wb.drew.alloc (.cells (BV zeros) 5)) (.slice (some ⟨wb.heap.size, 0, none⟩) 512 512) zeros := by
      have := BytesAt.of_cells (l := zeros) (r := []) (k := wb.drew.heap.size) (w := wb.drew.alloc (.cells (BV zeros) 5)) (by rw [List.append_nil]; exact heap_alloc_new _ _)
      rw [zeros_length] at this
      exact this
    have HZ := Lib.hid hz
    clear hz
    have HA := Lib.hid (fun (W : World) (hf : Fr [] wb W) => atJ_calls (hj1.fr0 hf) (q := (J1.place : Nat)) (by omega) (by omega))
    rw [Int.toNat_natCast] at HA
    have c8 := hj1.2.1.cells.c8
    have HJ1 := Lib.hid hj1
    have HXc := Lib.hid hXc
    have HOn1 := Lib.hid hon
    have HDn1 := Lib.hid hdn
    have HRes1 := Lib.hid hres1
    have HFc := Lib.hid hfc
    have HP1 := Lib.hid hp1
    have HTn1 := Lib.hid htn1
    have HJR : Hid (J1.ring = ring) := hrg1.trans HJR0.out.1
    have HDN : Hid (D1.n = n) := hn1.trans HJR0.out.2
    have hatn : atr J1.ring J1.place < D1.n := by omega
    rw [HLen.out] at hus1
    clear hj1 hXc hon hdn hres1 hfc hp1 hO HM HFree HCk HFt HFt1 HFree2 HCk3 HF2 HF3 hf1 hf2 hf3 c7 H HLV HV hn1 hrg1 htn1 HX
    generalize hat : atr J1.ring J1.place = at0 at *
    have HAt := Lib.hid hat
    clear hat
    go_wp2_with fail
    go_cut [8] (fun s8 wx => s8 = .int .i64 (D1.write at0 zeros).1 ∧ JD X wx pj ba p bl bm (J1.err (D1.write at0 zeros).1) (D1.write at0 zeros).2 ∧ Fr [p, bl, bm, pj] wb wx)
    case first =>
      go_region_held3 (fun W => W.cell? ⟨pj, 8, none⟩ = some (.int .i64 J1.place)) (first | exact c8 | go_keep | exact hj3.2.1.cells.c8)
        (first
          | (go_at_call 78; refine (HA.out _ (Fr.drew _ _)).mono ?_; rintro e w' ⟨rfl, rfl⟩)
          | (go_at_call 78; refine (HA.out _ ((Fr.drew _ _).trans (Fr.alloc _ _ _))).mono ?_; rintro e w' ⟨rfl, rfl⟩)
          | (go_at_call 77; refine (writeJ_calls (X := X) (b := zeros) ((HJ1.out.fr0 (Fr.drew [] _)).fr0 (Fr.alloc [] _ _)) HDn1.out HOn1.out.off (i := ((at0 : Nat) : Int)) (by omega) (by omega) HZ.out zeros_length (fun x hx => Nat.lt_of_lt_of_le (HXc.out x hx) (Fr.alloc [] wb.drew (.cells (BV zeros) 5)).size)).mono ?_; rintro e w3 ⟨rfl, hj3, hf3⟩; rw [Int.toNat_natCast] at hj3; rw [Int.toNat_natCast]))
      all_goals
        go_wp2_with fail
        go_meet
        exact ⟨rfl, hj3, ((Fr.drew _ wb).trans (Fr.alloc _ _ _)).trans hf3⟩
    case rest =>
      obtain ⟨rfl, hj3, hfrom⟩ := hcut
      have hfirst := J1.commit_first l
      rw [HAt.out] at hfirst
      have hat1 := DS.run_at (D := D1) (l := J1.commitCmds l) (k := 0) rfl hfirst
      rw [show (D1.run ((J1.commitCmds l).take 0)).2 = D1 from rfl, DS.step_w] at hat1
      have hr1 := DS.step_ran HOn1.out (.w at0 zeros) (fun i b e => by cases e; exact ⟨hatn, zeros_length⟩)
      rw [DS.step_w] at hr1
      have herr := DS.write_err D1 at0 zeros
      have HF3 := Lib.hid hfrom
      have HTag := Lib.hid (fun (W : World) => tagged_calls (w := W) (t := 2 * (J1.turn : Int) + 1) (by omega) (by have := hj3.2.2.1.turn; change J1.turn ≤ _ at this; omega))
      have HJ3 := Lib.hid hj3
      have HAt1 := Lib.hid hat1
      have HR1 := Lib.hid hr1
      clear hj3 hfrom hat1 hr1 hfirst HA HZ c8 hmk
      generalize D1.write at0 zeros = r at *
      obtain ⟨E, D3⟩ := r
      simp only at herr HR1
      rcases herr with rfl | rfl
      · have hj0 := HJ3.out
        rw [JS.err_zero J1 HDn1.out] at hj0
        have HJ0 := Lib.hid hj0
        have c7 : wc.cell? ⟨pj, 7, none⟩ = some (.int .u64 J1.turn) := hj0.2.1.cells.c7
        have htb := hj0.2.2.1.turn
        have hw1 : IntKind.u64.wrap (2 * (J1.turn : Int)) = 2 * (J1.turn : Int) := IntWalk.u64_in _ (by omega)
        have hw2 : IntKind.u64.wrap (2 * (J1.turn : Int) + 1) = 2 * (J1.turn : Int) + 1 := IntWalk.u64_in _ (by omega)
        have hw3 : IntKind.u64.wrap ((L : Nat) : Int) = ((L : Nat) : Int) := IntWalk.u64_in _ (by omega)
        have HTb := Lib.hid htb
        clear hj0 HJ3 htb
        go_wp2_with fail
        refine (HTag.out _).mono ?_
        rintro e w5 ⟨hv, rfl, hb5, hf5, hn5⟩
        have htn : ((2 * (J1.turn : Int) + 1).toNat) = 2 * J1.turn + 1 := by omega
        rw [htn] at hb5
        have htl := tagged_length (2 * J1.turn + 1)
        obtain ⟨kh, hcur, hve, _, _⟩ := id hb5
        rw [htl] at hve
        subst hve
        have hkh := hn5 kh 0 _ _ rfl
        have hmono : ∀ k, k ∈ kh :: X → k ∈ X ∨ wc.heap.size ≤ k := fun k hk => by
          rcases List.mem_cons.1 hk with rfl | hk
          · exact .inr hkh
          · exact .inl hk
        have hcs : 512 ≤ hcur.size := by have := hb5.le kh hcur (by rw [htl]); omega
        have hpc : PutsAt X wc (.slice va L vc) (toI l) := HP1.out.fr HF3.out (HJ1.out.noB.weak.mono (by simp)) (fun s hs => HJ1.out.noP s (by simp only [List.mem_cons, List.not_mem_nil, or_false] at hs ⊢; rcases hs with h | h | h | h <;> simp [h]))
        have hcm : CM (kh :: X) wb w5 pj ba p bl bm kh hcur.size J1 D3 (tagged (2 * J1.turn + 1)) (.slice none 0 0) (l.take 0) (.slice va L vc) l :=
          ⟨(HJ0.out.mono hmono).fr0 hf5, HF3.out.trans hf5.nil, hb5, PRow.nil _ _ _, (hpc.mono hmono).fr0 hf5, Nat.le_trans HF3.out.size hkh, fun k o n c e => by
            obtain ⟨a', c', e', hq⟩ := HP1.out
            obtain ⟨q, cells, rfl, hq1, _⟩ := hq (by rw [toI_length, HLen.out]; omega)
            rw [e'] at e
            cases e
            exact lt_of_heap hq1, by simp⟩
        have HL := Lib.hid (lay_calls hb5 (p := 8) (x := ((L : Nat) : Int)) (n := 2) (by decide) (by omega) (by omega) (by decide) (by decide) (by rw [htl]; decide) (by rw [htl]; decide))
        have HCm := Lib.hid hcm
        have HKh := Lib.hid hkh
        clear hb5 hf5 hn5 hmono hpc hcm htn htl hkh
        go_wp2_with fail
        refine HL.out.mono ?_
        rintro e w6 ⟨rfl, hb6, k6, n6, c6, he6, hf6⟩
        cases he6
        have hcm6 := HCm.out.head hf6 (hb' := hdrTo J1.turn l 0) (by
          have e : hdrTo J1.turn l 0 = lay (tagged (2 * J1.turn + 1)) (Int.toNat 8) ((L : Nat) : Int).toNat (Int.toNat 2) := by rw [Int.toNat_natCast, ← HLen.out]; rfl
          rw [e]; exact hb6)
        have HC6 : Hid (CRel X wb pj ba p bl bm kh hcur.size J1 D1 (.slice va L vc) l 0 (.slice none 0 0) w6) := by
          show CRel _ _ _ _ _ _ _ _ _ _ _ _ _ _ _ _
          unfold CRel
          rw [HAt1.out]
          exact ⟨rfl, HR1.out.ok rfl, HR1.out.n, hcm6⟩
        clear hb6 hf6 hcm6 HL HCm c7 hw1 hw2 HTag
        go_wp2_with fail
        clear hw3
        go_loopw [10, 76] (fun v10 i wr => ∃ k : Nat, k ≤ L ∧ i = .int .i64 k ∧ CRel X wb pj ba p bl bm kh hcur.size J1 D1 (.slice va L vc) l k v10 wr) (fun _ i _ => L - (RowKit.intOf i).toNat)
        case atStart => exact ⟨0, Nat.zero_le _, rfl, HC6.out⟩
        case round =>
          obtain ⟨k, hk, rfl, hr⟩ := hrel
          obtain ⟨hr0, hrOn, hrn, hrc⟩ := id hr
          have hO3 := hrc.1.2.2.1
          by_cases hlt : k < L
          · obtain ⟨x, hx⟩ : ∃ x, l[k]? = some x := ⟨_, List.getElem?_eq_getElem (by rw [HLen.out]; exact hlt)⟩
            have hxm := List.mem_of_getElem? hx
            have hxl := HFi.out.len x hxm
            have hxh : x.1 < 4096 := by
              have h1 := HFi.out.home x hxm
              have h2 := HLV'.out
              omega
            obtain ⟨q, c', u, hsl, hi64, x0, x1, hu, hq⟩ := hrc.2.2.2.2.1.get (toI_get l k hx)
            rw [toI_length, HLen.out] at hsl
            cases hsl
            have hux : BytesX (kh :: X) wr u x.2 := by
              rcases hu with ⟨_, e⟩ | h
              · rw [e] at hxl; cases hxl
              · exact h
            obtain ⟨ku, ucur, hue, _, _⟩ := id hux.1
            rw [hxl] at hue
            subst hue
            have hucs : 512 ≤ ucur.size := by have := hux.1.le ku ucur (by rw [hxl]); omega
            have HR := Lib.hid hr
            have HXx := Lib.hid hx
            have HUx := Lib.hid hux
            have HXl := Lib.hid hxl
            have hFb := Fr.alloc [] wr (.cells #[.int .i64 (x.1 : Nat), .slice (some ⟨ku, 0, none⟩) 512 ucur.size] 40)
            have hbox := heap_alloc_new wr (.cells #[.int .i64 (x.1 : Nat), .slice (some ⟨ku, 0, none⟩) 512 ucur.size] 40)
            have hcm0 := hrc.fr0 hFb
            have hhl : (hdrTo J1.turn l k).length = 512 := hdrTo_length (HFi.out.hd (by have := HLV'.out; omega)) _ _ (by rw [HLen.out]; omega)
            have HL1 := Lib.hid (lay_calls hcm0.2.2.1 (p := 16 + 12 * (k : Int)) (x := ((x.1 : Nat) : Int)) (n := 4) (by omega) (by omega) (by omega) (by decide) (by decide) (by rw [hhl]; omega) (by rw [hhl]; decide))
            have HBox := Lib.hid hbox
            have HFb := Lib.hid hFb
            have HC0 := Lib.hid hcm0
            have HHl := Lib.hid hhl
            have hcw : IntKind.u64.wrap ((x.1 : Nat) : Int) = ((x.1 : Nat) : Int) := IntWalk.u64_in _ (by omega)
            clear hr hr0 hrOn hrn hrc hx hxm hxl hu hux hFb hbox hcm0 hhl
            go_wp2_with fail
            refine HL1.out.mono ?_
            rintro e w7 ⟨rfl, hb7, k7, n7, c7, he7, hf7⟩
            cases he7
            have hcm7 := HC0.out.head hf7 hb7
            have hbh := HBox.out
            have hkhl := (HC0.out.2.2.1.heap).elim fun _ h => lt_of_heap h
            have hkhr : kh < wr.heap.size := by
              obtain ⟨cr, hcr⟩ := HR.out.2.2.2.2.2.1.heap
              exact lt_of_heap hcr
            have hbx7 := (hf7.block _ (lt_of_heap hbh) (by simp only [List.mem_singleton]; omega)).trans hbh
            have y0 : w7.cell? ⟨wr.heap.size, 0, none⟩ = some (.int .i64 (x.1 : Nat)) := by rw [cell_of hbx7]; rfl
            have y1 : w7.cell? ⟨wr.heap.size, 1, none⟩ = some (.slice (some ⟨ku, 0, none⟩) 512 ucur.size) := by rw [cell_of hbx7]; rfl
            have hbl7 := lt_of_heap hbx7
            have hu7 : BytesAt w7 (.slice (some ⟨ku, 0, none⟩) 512 ucur.size) x.2 := by
              have := (HUx.out.fr HFb.out (NoB.nil _ _)).fr hf7 (fun s hs => by simp only [List.mem_singleton] at hs; subst hs; exact ⟨hkhl, .inl (by simp)⟩)
              exact this.1
            have hhl1 : (lay (hdrTo J1.turn l k) (16 + 12 * (k : Int)).toNat ((x.1 : Nat) : Int).toNat (Int.toNat 4)).length = 512 := lay_len512 HHl.out (by omega)
            have e8 : (x.2.take 8).length = 8 := by rw [List.length_take, HXl.out]; rfl
            obtain ⟨w8, hcp, hb8, hf8⟩ := run_copy_blit (off := 16 + 12 * k + 4) (dLen := 512 - (16 + 12 * k + 4)) (dCap := hcur.size - (16 + 12 * k + 4)) (hb7.fr0 (Fr.drew [] w7)) rfl ((hu7.fr0 (Fr.drew [] w7)).takeSrc (m := 8) (by rw [HXl.out]; decide)) (by rw [e8, hhl1]; omega)
            have hhead : blit (lay (hdrTo J1.turn l k) (16 + 12 * (k : Int)).toNat ((x.1 : Nat) : Int).toNat (Int.toNat 4)) (16 + 12 * k + 4) ((x.2.take 8).take (512 - (16 + 12 * k + 4))) = hdrTo J1.turn l (k + 1) := by
              rw [hdrTo_succ _ _ _ HXx.out, lay_blit, List.take_of_length_le (by rw [e8]; omega), show (16 + 12 * (k : Int)).toNat = 16 + 12 * k by omega, Int.toNat_natCast]; rfl
            rw [hhead] at hb8
            have HC8 := Lib.hid ((hcm7.fr0 (Fr.drew [] w7)).head hf8 hb8)
            have HB8 := Lib.hid ((hf8.block _ hbl7 (by simp only [List.mem_singleton]; omega)).trans hbx7)
            have HU8 := Lib.hid ((HUx.out.fr HFb.out (NoB.nil _ _)).fr hf7 (fun s hs => by simp only [List.mem_singleton] at hs; subst hs; exact ⟨hkhl, .inl (by simp)⟩))
            have HF8 : Hid (Fr [kh] w7 w8) := (Fr.drew _ w7).trans hf8
            have HCp := Lib.hid hcp
            have HKl := Lib.hid hkhl
            have HK7 : Hid (kh < w7.heap.size) := Nat.lt_of_lt_of_le hkhl hf7.size
            have HF7 := Lib.hid hf7
            clear hcm7 hb7 hf7 hbh hkhl hkhr hbx7 hu7 hhl1 e8 hcp hb8 hf8 hhead hcw
            have s0 : IntKind.i64.wrap (12 * ((k : Nat) : Int)) = 12 * ((k : Nat) : Int) := IntWalk.i64_in _ (by omega)
            have s1 : IntKind.i64.wrap (16 + 12 * ((k : Nat) : Int)) = 16 + 12 * ((k : Nat) : Int) := IntWalk.i64_in _ (by omega)
            have s2 : IntKind.i64.wrap (16 + 12 * ((k : Nat) : Int) + 4) = ((16 + 12 * k + 4 : Nat) : Int) := by rw [IntWalk.i64_in _ (by omega)]; rfl
            have s3 : ((16 + 12 * k + 4 : Nat) : Int) ≤ 512 := by omega
            have z1 : (8 : Int) ≤ ((ucur.size : Nat) : Int) := by omega
            have z2 : ((16 + 12 * k + 4 : Nat) : Int) ≤ ((hcur.size : Nat) : Int) := by omega
            have z3 : (512 : Int) ≤ ((hcur.size : Nat) : Int) := by omega
            have z4 : (0 : Int) ≤ ((16 + 12 * k + 4 : Nat) : Int) := by omega
            have q1 : (0 : Int) ≤ 16 + 12 * ((k : Nat) : Int) + 4 := by omega
            have q2 : 16 + 12 * ((k : Nat) : Int) + 4 ≤ (512 : Int) := by omega
            have q3 : (16 + 12 * ((k : Nat) : Int) + 4).toNat = 16 + 12 * k + 4 := by omega
            have q4 : ¬ hcur.size = 16 + 12 * k + 4 := by omega
            go_wp2_with fail
            go_region_law (refine step_copy_run (t := 36) (ty := 3) (s := .tmp 94) (x := .tmp 97) (vs := .slice (some ⟨kh, 16 + 12 * k + 4, none⟩) (512 - (16 + 12 * k + 4)) (hcur.size - (16 + 12 * k + 4))) (vx := .slice (some ⟨ku, 0, none⟩) 8 ucur.size) (hg := rfl) (hop := rfl) (hty := rfl) (hs := by simp [go_sem]) (hx := by simp [go_sem]) (hrun := HCp.out) (hK := ?_))
            clear s0 s1 s2 s3 z1 z2 z3 z4 q1 q2 q3 q4 y0 y1 HCp hbl7
            have hb8 := HB8.out
            have hnr : wr.heap.size ∉ rowOf u10 := fun hm => by
              have := (HR.out.2.2.2.2.2.2.1.noB _ hm).1
              omega
            have HNR := Lib.hid hnr
            clear hnr
            generalize hbx : wr.heap.size = bx at *
            have y0 : w8.cell? ⟨bx, 0, none⟩ = some (.int .i64 (x.1 : Nat)) := by rw [cell_of hb8]; rfl
            have y1 : w8.cell? ⟨bx, 1, none⟩ = some (.slice (some ⟨ku, 0, none⟩) 512 ucur.size) := by rw [cell_of hb8]; rfl
            have hbl8 := lt_of_heap hb8
            have HU9 : Hid (BytesAt w8 (.slice (some ⟨ku, 0, none⟩) 512 ucur.size) x.2) := (HU8.out.fr HF8.out (fun s hs => by simp only [List.mem_singleton] at hs; subst hs; exact ⟨HK7.out, .inl (by simp)⟩)).1
            have HCl := Lib.hid (clone512 HU9.out.src HXl.out)
            have HBx := Lib.hid hbx
            clear hb8 hbx
            go_wp2_with fail
            refine HCl.out.mono ?_
            rintro e w9 ⟨kb, bc, rfl, hb9, hf9, hn9, hbc⟩
            have hy0 := hf9.cell y0 (by simp)
            have hbl9 : bx < w9.heap.size := Nat.lt_of_lt_of_le hbl8 hf9.size
            have hkbl : kb < w9.heap.size := by obtain ⟨cr, hcr⟩ := hb9.heap; exact lt_of_heap hcr
            have HC9 := Lib.hid ((HC8.out.mono (Z := kb :: kh :: X) (fun y hy => by
              rcases List.mem_cons.1 hy with rfl | hy
              · exact .inr hn9
              · exact .inl hy) (by simp)).fr0 hf9)
            have HXX : Hid (∀ y, y ∈ kb :: kh :: X → y < w9.heap.size) := fun y hy => by
              rcases List.mem_cons.1 hy with rfl | hy
              · exact hkbl
              · rcases List.mem_cons.1 hy with rfl | hy
                · exact Nat.lt_of_lt_of_le (Nat.lt_of_lt_of_le HK7.out HF8.out.size) hf9.size
                · have h1 := HXc.out y hy
                  have h2 := HC8.out.2.1.size
                  have h3 := hf9.size
                  omega
            have HCl2 := Lib.hid (clone512 (hb9.fr0 (Fr.drew [] w9)).src HXl.out)
            have HB9 := Lib.hid hb9
            have HF9 := Lib.hid hf9
            have HKbl := Lib.hid hkbl
            have HN9 := Lib.hid hn9
            clear hb9 hf9 hn9 hkbl HCl y0 y1 hbl8
            go_wp2_with fail
            go_region_held3 (fun W => W.cell? ⟨bx, 0, none⟩ = some (.int .i64 (x.1 : Nat)))
              (first | exact hy0 | exact hf10.cell hy0 (by simp) | go_keep | exact HFR.out.cell (hf10.cell hy0 (by simp)) HNR.out)
              (first
                | (go_at_call 81; refine HCl2.out.mono ?_; rintro e w10 ⟨kc, cc, rfl, hb10, hf10, hn10, hcc⟩; obtain ⟨v', w11, happ, hcm11, hfr11, hnb11⟩ := ((HC9.out.fr0 (Fr.drew [] w9)).fr0 hf10).append HXx.out (by rw [HLen.out]; omega) (by omega) (u := .slice (some ⟨kc, 0, none⟩) 512 cc) (BytesX.newer hb10 (fun k o n c e => by cases e; exact hn10) (fun y hy => Nat.lt_of_lt_of_le (HXX.out y hy) (Nat.le_refl _))); have HAp := Lib.hid happ; have HCM := Lib.hid hcm11; have HNB := Lib.hid hnb11; have HFR := Lib.hid hfr11; clear happ hcm11 hnb11 hfr11)
                | (refine step_append_run (t := 35) (ty := 35) (s := .tmp 102) (x := .tmp 108) (hg := rfl) (hop := rfl) (hty := rfl) (vs := u10) (vx := .slice (some ⟨w10.heap.size, 0, none⟩) 1 1) (hs := by simp [go_sem]) (hx := by simp [go_sem]) (hrun := HAp.out) (hK := ?_)))
            have hb11 := ((HB9.out.fr0 (Fr.drew [] w9)).fr0 hf10).fr HFR.out HNB.out
            have HC11 := HCM
            have hc7 : w11.cell? ⟨pj, 7, none⟩ = some (.int .u64 J1.turn) := HC11.out.1.2.1.cells.c7
            have hw1 : IntKind.u64.wrap (2 * (J1.turn : Int)) = 2 * (J1.turn : Int) := IntWalk.u64_in _ (by have := HTb.out; omega)
            have HL2 := Lib.hid (lay_calls hb11 (p := 0) (x := 2 * (J1.turn : Int)) (n := 8) (by decide) (by omega) (by have := HTb.out; omega) (by decide) (by decide) (by rw [HXl.out]; decide) (by rw [HXl.out]; decide))
            have hb11h := hb11.heap
            have HB11 := Lib.hid hb11h
            have hkne : kh ≠ kb := by
              have h1 := HK7.out
              have h2 := HF8.out.size
              have h3 := HN9.out
              omega
            have hkbb : wb.heap.size ≤ kb := by
              have h1 := HC8.out.2.1.size
              have h3 := HN9.out
              omega
            have HKne := Lib.hid hkne
            have HKbb := Lib.hid hkbb
            have HX11 : Hid (∀ y, y ∈ kb :: kh :: X → y < w11.heap.size) := fun y hy => Nat.lt_of_lt_of_le (HXX.out y hy) (Nat.le_trans hf10.size HFR.out.size)
            clear hb10 hf10 hn10 hcc hb11 hb11h hkne hkbb HCl2 HAp HNB HFR HCM hy0 hbl9
            go_wp2_with fail
            refine HL2.out.mono ?_
            rintro e w12 ⟨rfl, hb12, k12, n12, c12, he12, hf12⟩
            cases he12
            have hds : lay x.2 (Int.toNat 0) (2 * (J1.turn : Int)).toNat (Int.toNat 8) = dataSec J1.turn x.2 := by
              rw [show (2 * (J1.turn : Int)).toNat = 2 * J1.turn by omega]; rfl
            rw [hds] at hb12
            have hcm12 : CM (kb :: kh :: X) wb w12 pj ba p bl bm kh hcur.size J1 (D1.run ((J1.commitCmds l).take (k + 1))).2 (hdrTo J1.turn l (k + 1)) v' (l.take (k + 1)) (.slice (some ⟨q, 0, none⟩) L vc) l := by
              obtain ⟨cr, hcr⟩ := HB11.out
              exact HC11.out.bytes (by simp) HKbb.out hcr hf12 (HC11.out.2.2.1.frNe hf12 HKne.out)
            have hc8 : w12.cell? ⟨pj, 8, none⟩ = some (.int .i64 J1.place) := hcm12.1.2.1.cells.c8
            have HA := Lib.hid (atJ_calls hcm12.1 (q := (J1.place : Int) + 1 + (k : Int)) (by omega) (by omega))
            have hatk := atr_lt (show 0 < J1.ring by omega) (J1.place + 1 + k)
            rw [show ((J1.place : Int) + 1 + (k : Int)).toNat = J1.place + 1 + k by omega] at HA
            have hdl : (dataSec J1.turn x.2).length = 512 := dataSec_length HXl.out _
            have hrn := HR.out.2.2.1
            have HW := Lib.hid (writeJ_calls hcm12.1 HDn1.out HR.out.2.1.off (i := ((atr J1.ring (J1.place + 1 + k) : Nat) : Int)) (by omega) (by omega) hb12 hdl (fun y hy => Nat.lt_of_lt_of_le (HX11.out y hy) hf12.size))
            rw [Int.toNat_natCast] at HW
            have HC12 := Lib.hid hcm12
            have HDl := Lib.hid hdl
            have hak : atr J1.ring (J1.place + 1 + k) < D1.n := by omega
            have HAk := Lib.hid hak
            clear hcm12 hb12 hf12 hds hc7 hw1 HL2 hdl hrn hatk hak
            go_wp2_with (go_at_call 78; refine HA.out.mono ?_; rintro e w' ⟨rfl, rfl⟩)
            refine HW.out.mono ?_
            rintro e w13 ⟨rfl, hj13, hf13⟩
            have hget := J1.commit_get l HXx.out
            have hat2 := DS.run_at (k := k + 1) HR.out.1 hget
            have hr2 := DS.step_ran HR.out.2.1 (.w (atr J1.ring (J1.place + 1 + k)) (dataSec J1.turn x.2)) (fun i b e => by cases e; exact ⟨by rw [HR.out.2.2.1]; exact HAk.out, HDl.out⟩)
            have herr2 := DS.write_err (D1.run ((J1.commitCmds l).take (k + 1))).2 (atr J1.ring (J1.place + 1 + k)) (dataSec J1.turn x.2)
            rw [DS.step_w] at hat2 hr2
            have HAt2 := Lib.hid hat2
            have HR2 := Lib.hid hr2
            have HJ13 := Lib.hid hj13
            have HF13 := Lib.hid hf13
            have HN13 : Hid ((D1.run ((J1.commitCmds l).take (k + 1))).2.n = D1.n) := HR.out.2.2.1
            clear hget hat2 hr2 hj13 hf13 HW HA hc8
            generalize (D1.run ((J1.commitCmds l).take (k + 1))).2.write (atr J1.ring (J1.place + 1 + k)) (dataSec J1.turn x.2) = r2 at *
            obtain ⟨E2, D13⟩ := r2
            simp only at herr2 HR2
            rcases herr2 with rfl | rfl
            · have hcr : CRel X wb pj ba p bl bm kh hcur.size J1 D1 (.slice (some ⟨q, 0, none⟩) L vc) l (k + 1) v' w13 := by
                unfold CRel
                rw [HAt2.out]
                refine ⟨rfl, HR2.out.ok rfl, HR2.out.n.trans HN13.out, ?_⟩
                have hj := HJ13.out
                rw [JS.err_zero J1 HDn1.out] at hj
                exact (HC12.out.disk hj HF13.out).mono (fun y hy => .inl (List.mem_cons_of_mem _ hy)) (by simp)
              have HCr := Lib.hid hcr
              clear hcr
              go_wp2_with fail
              go_roundw
              case rel => exact ⟨k + 1, by omega, by go_num, HCr.out⟩
              case measure => show L - ((k : Int) + 1).toNat < L - ((k : Int)).toNat; omega
            · have hstop : D1.run (J1.commitCmds l) = (8, D13) := by rw [DS.run_stop (k := k + 1 + 1) (by rw [HAt2.out]; show (8 : Int) ≠ 0; decide)]; exact HAt2.out
              have HSt := Lib.hid hstop
              go_wp2_with fail
              go_ret
              rw [HRes1.out]
              unfold JS.commit0
              rw [HSt.out]
              exact ⟨rfl, HJ13.out.mono (fun y hy => .inl (List.mem_cons_of_mem _ (List.mem_cons_of_mem _ hy))), HFc.out.trans ((HC12.out.2.1.trans HF13.out).mono (by simp))⟩
          · have hkl : k = L := by omega
            subst hkl
            have hlk : l.take k = l := List.take_of_length_le (by rw [HLen.out]; exact Nat.le_refl _)
            rw [hlk] at hrc
            have hhd : hdrTo J1.turn l k = hdr J1.turn l := by unfold hdr; rw [HLen.out]
            rw [hhd] at hrc
            have HR := Lib.hid hr
            have HC := Lib.hid hrc
            have HW := Lib.hid (flushJ_calls hrc.1 HDn1.out hrOn.off)
            have hget := J1.commit_rest l 0
            rw [HLen.out] at hget
            have hat2 := DS.run_at (k := k + 1) hr0 hget
            have hr2 := DS.step_ran hrOn .f (fun i b e => by cases e)
            have herr2 := DS.flush_err (D1.run ((J1.commitCmds l).take (k + 1))).2
            rw [DS.step_f] at hat2 hr2
            have HAt2 := Lib.hid hat2
            have HR2 := Lib.hid hr2
            have HN := Lib.hid hrn
            clear hr hr0 hrOn hrn hrc hlk hhd hget hat2 hr2
            go_wp2_with fail
            refine HW.out.mono ?_
            rintro e w13 ⟨rfl, hj13, hf13⟩
            have HJ13 := Lib.hid hj13
            have HF13 := Lib.hid hf13
            clear hj13 hf13 HW
            generalize (D1.run ((J1.commitCmds l).take (k + 1))).2.flush = r2 at *
            obtain ⟨E2, D13⟩ := r2
            simp only at herr2 HR2
            rcases herr2 with rfl | rfl
            · have hj : JD (kh :: X) w13 pj ba p bl bm J1 D13 := by
                have := HJ13.out
                rw [JS.err_zero J1 HDn1.out] at this
                exact this
              have HC13 := Lib.hid (HC.out.disk hj HF13.out)
              have hc8 : w13.cell? ⟨pj, 8, none⟩ = some (.int .i64 J1.place) := hj.2.1.cells.c8
              have HA := atJ_calls hj (q := (J1.place : Int)) (by omega) (by omega)
              rw [Int.toNat_natCast, HAt.out] at HA
              have HA := Lib.hid HA
              have hhl : (hdr J1.turn l).length = 512 := hdrTo_length (HFi.out.hd (by have := HLV'.out; omega)) _ _ (Nat.le_refl _)
              have hn13 : D13.n = D1.n := HR2.out.n.trans HN.out
              have HW := Lib.hid (writeJ_calls hj HDn1.out (HR2.out.ok rfl).off (i := ((at0 : Nat) : Int)) (by omega) (by omega) HC13.out.2.2.1 hhl (fun y hy => by
                have h1 := HC13.out.2.1.size
                have hy1 : y < wr.heap.size := by
                  rcases List.mem_cons.1 hy with rfl | hy
                  · obtain ⟨cr, hcr⟩ := HC.out.2.2.1.heap; exact lt_of_heap hcr
                  · have := HXc.out y hy
                    have := HC.out.2.1.size
                    omega
                exact Nat.lt_of_lt_of_le hy1 HF13.out.size))
              rw [Int.toNat_natCast] at HW
              have hget := J1.commit_rest l 1
              rw [HLen.out] at hget
              have h20 : (D1.run ((J1.commitCmds l).take (k + 1 + 1))).1 = 0 := by rw [HAt2.out]
              have hat3 := DS.run_at (k := k + 1 + 1) h20 hget
              have h22 : (D1.run ((J1.commitCmds l).take (k + 1 + 1))).2 = D13 := by rw [HAt2.out]
              rw [h22, DS.step_w, HAt.out] at hat3
              have hr3 := DS.step_ran (D := D13) (HR2.out.ok rfl) (.w at0 (hdr J1.turn l)) (fun i b e => by cases e; exact ⟨by omega, hhl⟩)
              rw [DS.step_w] at hr3
              have herr3 := DS.write_err D13 at0 (hdr J1.turn l)
              have HAt3 := Lib.hid hat3
              have HR3 := Lib.hid hr3
              have HN13 := Lib.hid hn13
              clear hj hhl hget h20 hat3 h22 hr3 hn13
              go_wp2_with (go_at_call 78; refine HA.out.mono ?_; rintro e w' ⟨rfl, rfl⟩)
              refine HW.out.mono ?_
              rintro e w14 ⟨rfl, hj14, hf14⟩
              have HJ14 := Lib.hid hj14
              have HF14 := Lib.hid hf14
              clear hj14 hf14 HW HA hc8
              generalize D13.write at0 (hdr J1.turn l) = r3 at *
              obtain ⟨E3, D14⟩ := r3
              simp only at herr3 HR3
              rcases herr3 with rfl | rfl
              · have hj : JD (kh :: X) w14 pj ba p bl bm J1 D14 := by
                  have := HJ14.out
                  rw [JS.err_zero J1 HDn1.out] at this
                  exact this
                have HC14 := Lib.hid (HC13.out.disk hj HF14.out)
                have HW := Lib.hid (flushJ_calls hj HDn1.out (HR3.out.ok rfl).off)
                have hget := J1.commit_rest l 2
                rw [HLen.out] at hget
                have h20 : (D1.run ((J1.commitCmds l).take (k + 1 + 1 + 1))).1 = 0 := by rw [HAt3.out]
                have hat4 := DS.run_at (k := k + 1 + 1 + 1) h20 hget
                have h22 : (D1.run ((J1.commitCmds l).take (k + 1 + 1 + 1))).2 = D14 := by rw [HAt3.out]
                rw [h22, DS.step_f, List.take_of_length_le (by rw [J1.commit_len, HLen.out]; omega)] at hat4
                have hr4 := DS.step_ran (D := D14) (HR3.out.ok rfl) .f (fun i b e => by cases e)
                rw [DS.step_f] at hr4
                have herr4 := DS.flush_err D14
                have HAt4 := Lib.hid hat4
                have HN14 : Hid (D14.n = D1.n) := HR3.out.n.trans HN13.out
                have HR4 := Lib.hid hr4
                clear hj hget h20 hat4 h22 hr4
                go_wp2_with fail
                refine HW.out.mono ?_
                rintro e w15 ⟨rfl, hj15, hf15⟩
                have HJ15 := Lib.hid hj15
                have HF15 := Lib.hid hf15
                clear hj15 hf15 HW
                generalize D14.flush = r4 at *
                obtain ⟨E4, D15⟩ := r4
                simp only at herr4 HR4
                rcases herr4 with rfl | rfl
                · have hj : JD (kh :: X) w15 pj ba p bl bm J1 D15 := by
                    have := HJ15.out
                    rw [JS.err_zero J1 HDn1.out] at this
                    exact this
                  have HC15 := Lib.hid (HC14.out.disk hj HF15.out)
                  have hn15 : D15.n = D1.n := HR4.out.n.trans HN14.out
                  have HNt := note_calls hj HC15.out.2.2.2.1.puts (fun y hy => ⟨by
                    have h1 := HFi.out.home y hy
                    have h2 := HJR.out
                    rw [hn15, HDN.out]
                    omega, HFi.out.len y hy⟩) (by rw [HLen.out]; exact hus1) (by have := HTn1.out; have := HT.out; have := HLT.out; omega)
                  have hJn : J1.commit0 D1 l = (0, J1.note l, D15) := by
                    unfold JS.commit0
                    rw [HAt4.out]
                    rfl
                  have HJn := Lib.hid hJn
                  have HNt := Lib.hid HNt
                  clear hj hn15 hJn
                  go_wp2_with (go_at_call 73; refine HNt.out.mono ?_; rintro e w16 ⟨rfl, hj16, hf16⟩)
                  go_ret
                  rw [HRes1.out, HJn.out]
                  exact ⟨rfl, hj16.mono (fun y hy => .inl (List.mem_cons_of_mem _ hy)), HFc.out.trans ((HC15.out.2.1.mono (by simp)).trans (hf16.mono (by simp)))⟩
                · have HSt : Hid (D1.run (J1.commitCmds l) = (8, D15)) := HAt4
                  go_wp2_with fail
                  go_ret
                  rw [HRes1.out]
                  unfold JS.commit0
                  rw [HSt.out]
                  exact ⟨rfl, HJ15.out.mono (fun y hy => .inl (List.mem_cons_of_mem _ hy)), HFc.out.trans ((HC14.out.2.1.trans HF15.out).mono (by simp))⟩
              · have hstop : D1.run (J1.commitCmds l) = (8, D14) := by rw [DS.run_stop (k := k + 1 + 1 + 1) (by rw [HAt3.out]; show (8 : Int) ≠ 0; decide)]; exact HAt3.out
                have HSt := Lib.hid hstop
                go_wp2_with fail
                go_ret
                rw [HRes1.out]
                unfold JS.commit0
                rw [HSt.out]
                exact ⟨rfl, HJ14.out.mono (fun y hy => .inl (List.mem_cons_of_mem _ hy)), HFc.out.trans ((HC13.out.2.1.trans HF14.out).mono (by simp))⟩
            · have hstop : D1.run (J1.commitCmds l) = (8, D13) := by rw [DS.run_stop (k := k + 1 + 1) (by rw [HAt2.out]; show (8 : Int) ≠ 0; decide)]; exact HAt2.out
              have HSt := Lib.hid hstop
              go_wp2_with fail
              go_ret
              rw [HRes1.out]
              unfold JS.commit0
              rw [HSt.out]
              exact ⟨rfl, HJ13.out.mono (fun y hy => .inl (List.mem_cons_of_mem _ hy)), HFc.out.trans ((HC.out.2.1.trans HF13.out).mono (by simp))⟩
      · have hstop : D1.run (J1.commitCmds l) = (8, D3) := by rw [DS.run_stop (k := 1) (by rw [HAt1.out]; show (8 : Int) ≠ 0; decide)]; exact HAt1.out
        have HSt := Lib.hid hstop
        go_wp2_with fail
        go_ret
        rw [HRes1.out]
        unfold JS.commit0
        rw [HSt.out]
        exact ⟨rfl, HJ3.out, HFc.out.trans (HF3.out.mono (by simp))⟩
end
end Go.Proofs.Ytgblfghgngfhdaa
