/- cadencyref04.rest, turns, Set: the walk. -/
import Derived.Test.YtphdcoegkfmaeaaGreatDoorSetSpec
import Derived.Test.YtphdcoegkfmaeaaGreatDoorLineRows
import Derived.Test.YtphdcoegkfmaeaaGreatDoorRowLaw
set_option linter.unusedVariables false
set_option linter.unusedSimpArgs false
namespace Go.Proofs.YtphdcoegkfmaeaaGreatDoor
open Go.RowKit Cad

theorem rest_num4 (x n : Int) (h1 : 1 ≤ n) : (x.tmod n + n) % n = x % n := by
  have e := Int.tmod_eq_emod (a := x) (b := n)
  have h3 : (n.natAbs : Int) = n := by omega
  split at e
  · rw [e]; simp
  · rw [e, h3, Int.sub_add_cancel, Int.emod_emod]
theorem rest_low4 (x n : Int) (h1 : 1 ≤ n) : -n < x.tmod n ∧ x.tmod n < n := by
  have e := Int.tmod_eq_emod (a := x) (b := n)
  have h0 := Int.emod_nonneg x (b := n) (by omega)
  have h2 := Int.emod_lt_of_pos x (b := n) (by omega)
  have h3 : (n.natAbs : Int) = n := by omega
  split at e <;> omega
theorem ret_i4 {k : IntKind} {a b : Int} (h : a = b) : Ending.returned (.int k a) = .returned (.int k b) := by rw [h]
set_option maxRecDepth 100000 in
theorem rest4_any (x n : Int) (h0 : -9223372036854775808 ≤ x) (h9 : x ≤ 9223372036854775807) (h1 : 1 ≤ n) (h2 : n ≤ 4611686018427387904) (w : World) :
    Calls Tryz.prog 24 #[.int .i64 x, .int .i64 n] w fun e w' => e = .returned (.int .i64 (x % n)) ∧ w = w' := by
  obtain ⟨l1, l2⟩ := rest_low4 x n h1
  have hz : ((n : Int) == 0) = false := by simp; omega
  have hn := Lib.hid (rest_num4 x n h1)
  go_enter Tryz.func24, Tryz.ntmps24
  go_wp2
  go_ret
  exact ⟨ret_i4 hn.out, rfl⟩
set_option maxRecDepth 100000 in
set_option maxHeartbeats 2000000 in
theorem turns_any (n turn : Int) (h0 : -9223372036854775808 ≤ turn) (h9 : turn ≤ 9223372036854775807) (h1 : 1 ≤ n) (h2 : n ≤ 8) (w : World) :
    Calls Tryz.prog 25 #[.int .i64 n, .int .i64 turn] w fun e w' => e = .returned (.int .i64 (turnsZ n turn)) ∧ w = w' := by
  have hz : ((n : Int) == 0) = false := by simp; omega
  have hT : turn.natAbs / n.natAbs ≤ turn.natAbs := Nat.div_le_self _ _
  have hd : -9223372036854775808 ≤ turn.tdiv n ∧ turn.tdiv n ≤ 9223372036854775807 := by
    by_cases ht : turn = -9223372036854775808
    · subst ht
      have : n = 1 ∨ n = 2 ∨ n = 3 ∨ n = 4 ∨ n = 5 ∨ n = 6 ∨ n = 7 ∨ n = 8 := by omega
      rcases this with rfl | rfl | rfl | rfl | rfl | rfl | rfl | rfl <;> decide
    · have e := Int.natAbs_tdiv turn n
      have : (turn.tdiv n).natAbs ≤ turn.natAbs := by rw [e]; exact hT
      omega
  obtain ⟨d1, d2⟩ := hd
  have hU : turnsZ n turn = if 2 < n ∧ (turn.tdiv n) % 2 = 1 then n - 1 else 1 := rfl
  generalize hQ : turn.tdiv n = Q at *
  by_cases h3 : 2 < n
  · by_cases h4 : Q % 2 = 1
    · rw [if_pos ⟨h3, h4⟩] at hU
      have HU := Lib.hid hU
      have hb : ((Q % 2 : Int) == 1) = true := by simp [h4]
      generalize hq : Q % 2 = q at *
      clear hU h4
      go_enter Tryz.func25, Tryz.ntmps25
      go_wp2_with (go_at_call 24; refine (rest4_any _ _ d1 d2 (by omega) (by omega) _).mono ?_; rintro e w' ⟨rfl, rfl⟩; rw [hq])
      go_ret
      exact ⟨ret_i4 HU.out.symm, rfl⟩
    · rw [if_neg (fun h => h4 h.2)] at hU
      have HU := Lib.hid hU
      have hb : ((Q % 2 : Int) == 1) = false := by simp [h4]
      generalize hq : Q % 2 = q at *
      clear hU h4
      go_enter Tryz.func25, Tryz.ntmps25
      go_wp2_with (go_at_call 24; refine (rest4_any _ _ d1 d2 (by omega) (by omega) _).mono ?_; rintro e w' ⟨rfl, rfl⟩; rw [hq])
      go_ret
      exact ⟨ret_i4 HU.out.symm, rfl⟩
  · rw [if_neg (fun h => h3 h.1)] at hU
    have HU := Lib.hid hU
    clear hU
    go_enter Tryz.func25, Tryz.ntmps25
    go_wp2_with (go_at_call 24; refine (rest4_any _ _ d1 d2 (by omega) (by omega) _).mono ?_; rintro e w' ⟨rfl, rfl⟩; rw [hq])
    go_ret
    exact ⟨ret_i4 HU.out.symm, rfl⟩

theorem baseL_snoc (L : List Spec) (k : Nat) : baseL L (k + 1) = baseL L k ++ [baseT (spc L k) k] := by
  unfold baseL; rw [List.range_succ, List.map_append]; rfl
theorem baseL_length (L : List Spec) (k : Nat) : (baseL L k).length = k := by simp [baseL]
theorem task_oneCell (x : Task) : ∀ u ∈ x.cells, u.oneCell' = true := by
  intro u hu
  simp [Task.cells] at hu
  rcases hu with rfl | rfl | rfl | rfl | rfl | rfl | rfl <;> simp [Value.oneCell']
theorem cells_behind (w : World) (cs : List Value) (T : TypeId) : ∀ (j : Nat) (u : Value), cs[j]? = some u → (w.alloc (.cells cs.toArray T)).cell? ((⟨w.heap.size, 0, none⟩ : Addr).add j) = some u := by
  intro j u hu
  have e : (⟨w.heap.size, 0, none⟩ : Addr).add j = ⟨w.heap.size, j, none⟩ := by unfold Addr.add; split <;> simp_all
  rw [e, World.cell?_alloc_mark]
  simpa using hu
theorem u8_add (k : Nat) (hk : k < 8) : ((97 + (k : Int)) : Int) = ((UInt8.ofNat (97 + k)).toNat : Int) := by
  have : (UInt8.ofNat (97 + k)).toNat = 97 + k := by rw [UInt8.toNat_ofNat']; exact Nat.mod_eq_of_lt (by omega)
  rw [this]; omega
theorem nm_app (c : UInt8) : (⟨#[116]⟩ : ByteArray) ++ ⟨#[c]⟩ = ⟨#[116, c]⟩ := str_cons 116 [c]

theorem prio_zero (l : List Spec) (n : Nat) (turn : Int) : prioL l n turn 0 = baseL l n := by
  unfold prioL baseL
  refine List.map_congr_left fun i _ => ?_
  rw [if_neg (by omega)]
theorem prio_step {l : List Spec} {n : Nat} {turn : Int} {k : Nat} (hk : k < n) (j : Nat) (hj : j < n * 7) :
    ((prioL l n turn (k + 1)).flatMap Task.cells)[j]? = if j = k * 7 + 6 then some (.int .i64 (prioZ n turn k)) else ((prioL l n turn k).flatMap Task.cells)[j]? := by
  have hi : j / 7 < n := by omega
  have e : j = j / 7 * 7 + j % 7 := by omega
  have hr : j % 7 < 7 := by omega
  generalize j / 7 = i at *
  generalize j % 7 = r at *
  subst e
  rw [flat_at (f := Task.cells) (size := 7) (fun _ => rfl) _ i r _ (tsk_some (by rw [prioL_length]; exact hi)) hr, flat_at (f := Task.cells) (size := 7) (fun _ => rfl) _ i r _ (tsk_some (by rw [prioL_length]; exact hi)) hr, prioL_at hi, prioL_at hi]
  by_cases hik : i = k
  · subst hik
    rw [if_pos (show i < i + 1 by omega), if_neg (show ¬ i < i by omega)]
    by_cases hr6 : r = 6
    · subst hr6; rw [if_pos (show i * 7 + 6 = i * 7 + 6 from rfl)]; rfl
    · rw [if_neg (show ¬ i * 7 + r = i * 7 + 6 by omega)]
      have : r = 0 ∨ r = 1 ∨ r = 2 ∨ r = 3 ∨ r = 4 ∨ r = 5 := by omega
      rcases this with rfl | rfl | rfl | rfl | rfl | rfl <;> rfl
  · rw [if_neg (show ¬ i * 7 + r = k * 7 + 6 by omega)]
    by_cases hlt : i < k
    · rw [if_pos (show i < k + 1 by omega), if_pos hlt]
    · rw [if_neg (show ¬ i < k + 1 by omega), if_neg hlt]
theorem turns_range {n turn : Int} (h1 : 1 ≤ n) : 1 ≤ turnsZ n turn ∧ turnsZ n turn ≤ n := by unfold turnsZ; split <;> omega

set_option maxRecDepth 100000 in
set_option maxHeartbeats 4000000 in
theorem Set_any (l : List Spec) (hfit : ∀ x ∈ l, x.fits) (hlen : l.length ≤ 9223372036854775807) (most : Nat) (h1 : 1 ≤ most) (h8 : most ≤ 8) (turn : Int) (ht0 : -9223372036854775808 ≤ turn) (ht9 : turn ≤ 9223372036854775807) (A : Option Addr) (c : Nat) (w : World) (hrow : specsRow w A l) :
    Calls Tryz.prog 9 #[.slice A l.length c, .int .i64 most, .int .i64 turn] w fun e w' => ∃ B cap, e = .returned (.slice B (setN l most) cap) ∧ setN l most ≤ cap ∧ tasksRow w' B (setT l most turn) ∧ Kept w w' := by
  obtain ⟨i0, hi0, iz0, iz1, iz2⟩ := info_parts (show (Tryz.prog.info? 26).map (fun i => (i.zero, i.size, i.bytes)) = some (some (.agg #[.string ⟨#[]⟩, .int .i64 0, .int .i64 0, .int .i64 0, .int .i64 0, .int .i64 0, .int .i64 0]), 7, 64) by kernel_rfl)
  have hL1 := specs1_length l turn
  have hN : setN l most = min (max l.length 1) most := rfl
  have hLf : ∀ x ∈ specs1 l turn, x.fits := by
    unfold specs1; split
    · intro x hx; simp at hx; subst hx; exact ⟨⟨ht0, ht9⟩, ⟨by show (-9223372036854775808 : Int) ≤ 0; decide, by show (0 : Int) ≤ 9223372036854775807; decide⟩, ⟨by show (-9223372036854775808 : Int) ≤ 0; decide, by show (0 : Int) ≤ 9223372036854775807; decide⟩, ⟨by show (-9223372036854775808 : Int) ≤ 0; decide, by show (0 : Int) ≤ 9223372036854775807; decide⟩, ⟨by show (-9223372036854775808 : Int) ≤ 0; decide, by show (0 : Int) ≤ 9223372036854775807; decide⟩⟩
    · exact hfit
  have hor : setN l most = (specs1 l turn).length ∨ (setN l most = most ∧ setN l most < (specs1 l turn).length) := by omega
  have hnl : setN l most ≤ (specs1 l turn).length := by omega
  have hnm : setN l most ≤ most := by omega
  have hn1 : 1 ≤ setN l most := by omega
  have hlL : (specs1 l turn).length ≤ 9223372036854775807 := by omega
  clear hN hL1
  go_enter Tryz.func9, Tryz.ntmps9
  go_upto_if 18 with fail
  go_cut [0] from 19 to 21 (fun av wx => ∃ (A' : Option Addr) (c' : Nat), av = .slice A' (specs1 l turn).length c' ∧ specsRow wx A' (specs1 l turn) ∧ Kept w wx)
  case first =>
    by_cases hz : l.length = 0
    · have hb : ((l.length : Int) == 0) = true := by rw [beq_iff_eq]; omega
      have hLe : specs1 l turn = [⟨turn, 0, 0, 0, 0⟩] := by unfold specs1; rw [if_pos hz]
      have HL := Lib.hid hLe
      clear hLe
      go_wp2_with fail
      go_meet
      rw [HL.out]
      exact ⟨_, _, rfl, fun _ => ⟨w.heap.size, 0, rfl, by simp, fun j u hu => by
        rw [Lib.cell_of_heap (heap_alloc_new w _), Nat.zero_add]
        simpa [Spec.cells] using hu⟩, (Kept.refl w).alloc _⟩
    · have hb : ((l.length : Int) == 0) = false := by rw [beq_eq_false_iff_ne]; omega
      have hLe : specs1 l turn = l := by unfold specs1; rw [if_neg hz]
      have HL := Lib.hid hLe
      clear hLe
      go_wp2_with fail
      go_meet
      rw [HL.out]
      exact ⟨_, _, rfl, hrow, Kept.refl w⟩
  case rest =>
    obtain ⟨A', c', rfl, hrowL, hKw⟩ := hcut
    have HKw := Lib.hid hKw
    generalize hLe : specs1 l turn = L at *
    generalize hn : setN l most = n at *
    have HN := Lib.hid hn
    have HL := Lib.hid hLe
    clear hLe hn
    go_wp2_with fail
    go_loopw [7, 8] (fun ov iv wr => ∃ k : Nat, k ≤ n ∧ iv = .int .i64 k ∧ Kept wc wr ∧ wr.ownsRow wc.heap.size 26 7 ov k ((baseL L k).flatMap Task.cells)) (fun _ iv _ => n - (intOf iv).toNat)
    case atStart => exact ⟨0, by omega, rfl, Kept.refl _, World.ownsRow_nil _ _ _ _⟩
    case round =>
      obtain ⟨k, hk, rfl, hK, hown⟩ := hrel
      obtain ⟨OA, ocap, rfl⟩ := own_slice hown
      by_cases he : k = n
      · subst he
        rcases hor with hor | ⟨hor, hor2⟩
        all_goals
          first
            | (have hx1 : ¬ ((k : Int) < L.length) := by omega)
            | (have hx1 : ((k : Int) < L.length) := by omega
               have hx2 : ¬ ((k : Int) < most) := by omega)
          have Hor := Lib.hid hor
          clear hor
          obtain ⟨g, hOA, hgw, cur, hcur, hkc, hcm, hcs, hct⟩ : ∃ g, OA = some ⟨g, 0, none⟩ ∧ wc.heap.size ≤ g ∧ ∃ cur, wr.heap[g]? = some (.cells cur 26 (0, 0)) ∧ k ≤ ocap ∧ ocap ≤ maxLen ∧ cur.size = ocap * 7 ∧ cur.toList.take (k * 7) = (baseL L k).flatMap Task.cells := by
            rcases hown.2 with ⟨_, h0⟩ | ⟨g, cap, cur, hv, hb1, hb2, hb3, hb4, hb5, hb6⟩
            · omega
            · cases hv; exact ⟨g, rfl, hb1, cur, hb2, hb3, hb4, hb5, hb6⟩
          subst hOA
          clear hown
          go_wp2_with fail
          go_loopw [15] (fun iv W => ∃ m : Nat, m ≤ k ∧ iv = .int .i64 m ∧ Kept wc W ∧ ∃ cur, W.heap[g]? = some (.cells cur 26 (0, 0)) ∧ cur.size = ocap * 7 ∧ ∀ j, j < k * 7 → cur[j]? = ((prioL L k turn m).flatMap Task.cells)[j]?) (fun iv _ => k - (intOf iv).toNat)
          case atStart =>
            refine ⟨0, by omega, rfl, hK, cur, hcur, hcs, fun j hj => ?_⟩
            rw [prio_zero, ← hct, List.getElem?_take_of_lt hj]
            simp
          case round =>
            obtain ⟨m, hm, rfl, hKm, cur2, hcur2, hcs2, hct2⟩ := hrel
            by_cases hmk : m = k
            · subst hmk
              go_wp2_with fail
              go_ret
              rw [HN.out]; refine ⟨_, _, rfl, hkc, ?_, HKw.out.trans hKm⟩
              intro _
              refine ⟨g, 0, rfl, (Array.getElem?_eq_some_iff.1 hcur2).1, fun j u hu => ?_⟩
              have hj : j < m * 7 := by
                have h1 := (List.getElem?_eq_some_iff.1 hu).1
                rw [flat_length (f := Task.cells) (size := 7) (fun _ => rfl), setT_length, HN.out] at h1
                exact h1
              rw [Lib.cell_of_heap hcur2, Nat.zero_add, hct2 j hj]
              have hset : setT l most turn = prioL L m turn m := by unfold setT; rw [HL.out, HN.out]
              rw [← hset]
              exact hu
            · have hmlt : ((m : Int) < k) := by omega
              have hmlt2 : m < k := by omega
              have hst := fun j hj => prio_step (l := L) (n := k) (turn := turn) hmlt2 j hj
              obtain ⟨u, hu⟩ : ∃ u, cur2[m * 7 + 6]? = some u := ⟨_, Array.getElem?_eq_getElem (by rw [hcs2]; omega)⟩
              have z1 : wr.cell? ⟨g, m * 7 + 6, none⟩ = some u := by rw [Lib.cell_of_heap hcur2]; exact hu
              have z2 := Lib.frozen_of_heap hcur2 (m * 7 + 6)
              obtain ⟨t1, t2⟩ := turns_range (n := k) (turn := turn) (by omega)
              have q1 := Int.emod_nonneg turn (b := k) (by omega)
              have q2 := Int.emod_lt_of_pos turn (b := k) (by omega)
              have hpz : prioZ k turn m = 1 + (m * turnsZ k turn + turn % k) % k := rfl
              have CT := fun W => turns_any k turn ht0 ht9 (by omega) (by omega) W
              have CR := fun W => rest4_any turn k ht0 ht9 (by omega) (by omega) W
              have hmt : 0 ≤ (m : Int) * turnsZ k turn ∧ (m : Int) * turnsZ k turn ≤ 64 := by
                constructor
                · exact Int.mul_nonneg (by omega) (by omega)
                · have h1 : (m : Int) * turnsZ k turn ≤ 8 * turnsZ k turn := Int.mul_le_mul_of_nonneg_right (by omega) (by omega)
                  omega
              have Hst := Lib.hid hst
              clear hst
              generalize hM : turnsZ k turn = M at *
              generalize hR : turn % (k : Int) = R at *
              obtain ⟨y1, y2⟩ := hmt
              have r1 := Int.emod_nonneg (m * M + R) (b := k) (by omega)
              have r2 := Int.emod_lt_of_pos (m * M + R) (b := k) (by omega)
              have hkz : ((k : Int) == 0) = false := by rw [beq_eq_false_iff_ne]; omega
              have Hpz := Lib.hid hpz
              have Hct := Lib.hid hct2
              clear hpz hct hct2 hcs hu
              go_wp2_with (first
                | (go_at_call 25; refine (CT _).mono ?_; rintro e w' ⟨rfl, rfl⟩)
                | (go_at_call 24; refine (CR _).mono ?_; rintro e w' ⟨rfl, rfl⟩))
              go_roundw
              case rel =>
                refine ⟨m + 1, by omega, by go_num, hKm.setCell (p := ⟨g, m * 7 + 6, none⟩) (by exact hgw) _, _, Joins.block_setCell hcur2 _, by simp [hcs2], fun j hj => ?_⟩
                rw [Hst.out j hj, ← Hct.out j hj, Array.getElem?_setIfInBounds, ← Hpz.out]
                by_cases hje : m * 7 + 6 = j
                · subst hje
                  rw [if_pos rfl, if_pos rfl, if_pos (by rw [hcs2]; omega)]
                · rw [if_neg hje, if_neg (fun h => hje h.symm)]
              case measure => simp [intOf]; omega
      · have hlt1 : ((k : Int) < L.length) := by omega
        have hlt2 : ((k : Int) < most) := by omega
        obtain ⟨b, off, rfl, c0, c1, c2, c3, c4⟩ := (hrowL.kept hK).range (spc_some (l := L) (k := k) (by omega))
        have hx := hLf _ (List.mem_of_getElem? (spc_some (l := L) (k := k) (by omega)))
        have hbase := baseL_snoc L k
        generalize spc L k = x at *
        have f1 := hx.c64.1; have f2 := hx.c64.2; have f3 := hx.d64.1; have f4 := hx.d64.2; have f5 := hx.j64.1; have f6 := hx.j64.2; have f7 := hx.q64.1; have f8 := hx.q64.2; have f9 := hx.t64.1; have f10 := hx.t64.2
        have e1 := Int.emod_nonneg x.c (b := 4) (by decide)
        have e2 := Int.emod_lt_of_pos x.c (b := 4) (by decide)
        have e3 := Int.emod_nonneg x.d (b := 11) (by decide)
        have e4 := Int.emod_lt_of_pos x.d (b := 11) (by decide)
        have e5 := Int.emod_nonneg x.t (b := 7) (by decide)
        have e6 := Int.emod_lt_of_pos x.t (b := 7) (by decide)
        have e7 := Int.emod_nonneg x.j (b := 1 + x.c % 4 + x.d % 11 - (1 + x.c % 4) + 1) (by omega)
        have e8 := Int.emod_lt_of_pos x.j (b := 1 + x.c % 4 + x.d % 11 - (1 + x.c % 4) + 1) (by omega)
        have e9 := Int.emod_nonneg x.q (b := 1 + x.c % 4) (by omega)
        have e10 := Int.emod_lt_of_pos x.q (b := 1 + x.c % 4) (by omega)
        have hbT : (baseT x k).cells = [.string (nmT k), .int .i64 (1 + x.c % 4), .int .i64 (1 + x.c % 4 + x.d % 11 + x.t % 7), .int .i64 (1 + x.c % 4 + x.d % 11), .int .i64 (x.j % (1 + x.c % 4 + x.d % 11 - (1 + x.c % 4) + 1)), .int .i64 (1 + x.q % (1 + x.c % 4)), .int .i64 0] := rfl
        generalize hC : x.c % 4 = C at *
        generalize hD : x.d % 11 = D at *
        generalize hT : x.t % 7 = T at *
        generalize hJ : x.j % (1 + C + D - (1 + C) + 1) = J at *
        generalize hQ : x.q % (1 + C) = Q at *
        have hlt := (show Kept wc wr from hK).size
        go_wp2_with (first
          | (go_at_call 24; refine (rest4_any _ _ (by assumption) (by assumption) (by omega) (by omega) _).mono ?_; rintro e w' ⟨rfl, rfl⟩; first | rw [hC] | rw [hD] | rw [hT] | rw [hJ] | rw [hQ]))
        obtain ⟨cc, hcc⟩ : ∃ cc : UInt8, UInt8.ofNat (97 + k) = cc := ⟨_, rfl⟩
        have hu8 := u8_add k (by omega)
        have hnm : nmT k = ⟨#[116, cc]⟩ := by unfold nmT; rw [hcc]
        rw [hcc] at hu8
        rw [hnm] at hbT
        clear hcc hnm
        rw [conv_one wr _ cc hu8]
        clear hu8
        rw [Result.andThen_ok]
        rw [Oper.upon_value]
        have hcells : ∀ (j : Nat) (u : Value), (baseT x k).cells[j]? = some u → ((wr.alloc (.cells #[.int .u8 (97 + (k : Int))] 5)).alloc (.cells #[.string ((⟨#[116]⟩ : ByteArray) ++ ⟨#[cc]⟩), .int .i64 (1 + C), .int .i64 (1 + C + D + T), .int .i64 (1 + C + D), .int .i64 J, .int .i64 (1 + Q), .int .i64 0] 26)).cell? ((⟨wr.heap.size + 1, 0, none⟩ : Addr).add j) = some u := fun j u hu => by
          have h := cells_behind (wr.alloc (.cells #[.int .u8 (97 + (k : Int))] 5)) (baseT x k).cells 26 j u hu
          rw [World.size_alloc, hbT] at h
          rw [nm_app]
          exact h
        have Hb := Lib.hid hbase
        have Hor := Lib.hid hor
        clear hbase hbT e1 e2 e3 e4 e5 e6 e7 e8 e9 e10 f1 f2 f3 f4 f5 f6 f7 f8 f9 f10 hC hD hT hJ hQ hx hor
        go_wp2_with (first
          | (at_builtin; go_loud (refine wpList_append_own _ rfl _ _ 23 rfl wc.heap.size 26 i0 _ 7 64 Tryz.underlying23 hi0 iz0 iz1 iz2 rfl (by decide) _ k ((baseL L k).flatMap Task.cells) rfl (ownsRow_kept hown (((Kept.refl wr).alloc _).alloc _)) ⟨wr.heap.size + 1, 0, none⟩ 1 1 (baseT x k).cells rfl rfl hcells (task_oneCell _) (by unfold maxLen; omega) (by omega) (by simp; omega) ?_; intro v' w4 hown4 hgrow _)))
        go_roundw
        case rel =>
          refine ⟨k + 1, by omega, by go_num, ((hK.alloc _).alloc _).grown hgrow (fun g e => by have := (hown.lt _ e).1; omega), ?_⟩
          rw [Hb.out, List.flatMap_append]
          have h6 : [baseT x k].flatMap Task.cells = (baseT x k).cells := by simp
          rw [h6]
          exact hown4
        case measure => simp [intOf]; omega

end Go.Proofs.YtphdcoegkfmaeaaGreatDoor
