/- rta.Each: the numbers of a reckoning: the iterator. -/
import Derived.Test.YtphdcoegkfmaeaaGreatDoorRta
import Derived.TacticsInMore
import Derived.WalkMore
set_option linter.unusedVariables false
set_option linter.unusedSimpArgs false
namespace Go.Proofs.YtphdcoegkfmaeaaGreatDoor
open Go.RowKit Cad Go.Shelf
attribute [local go_sem] Oper.semAt_some

theorem noGoto_normal {Q : Exit → Act → World → Prop} {a : Act} {w : World} : Exit.noGoto Q .normal a w = Q .normal a w := rfl
def bigN : Nat := 4503599627370496
def bigW : Int := 2251799813685248
/-- A number of a reckoning. -/
abbrev RW := { x : Int // 0 ≤ x ∧ x ≤ bigW }
def RS (l : List Task) (i : Nat) (ys : List RW) : Prop := ∃ zs x, ys = zs ++ [x] ∧ EndsAt l i x.1
theorem needZ_le {l : List Task} (hmay : May l) {i : Nat} (hi : i < l.length) {v : Int} (hv : 0 ≤ v) (hv2 : v ≤ 1099511627776) : 0 ≤ needZ l i v ∧ needZ l i v ≤ 2251799813685248 := by
  have hN : needZ l i v = (tsk l i).c + Cad.block l i + highZ l i v := by
    unfold needZ highZ Cad.need
    split <;> simp
  have hq := (may_valid hmay).ok i hi
  have := hq.c1; have := hq.cd; have := hq.j0; have := hq.dt; have := hq.tm
  obtain ⟨b1, b2⟩ := block_le hmay i
  obtain ⟨g1, g2⟩ := high_le hmay i hv hv2
  omega
theorem needZ_zero (l : List Task) (i : Nat) : needZ l i 0 = (tsk l i).c + Cad.block l i := by unfold needZ; rw [if_pos rfl]
theorem needZ_pos (l : List Task) (i : Nat) {v : Int} (h : 1 ≤ v) : needZ l i v = Cad.need l i v := by unfold needZ; rw [if_neg (by omega)]

set_option maxRecDepth 100000 in
set_option maxHeartbeats 4000000 in
theorem Each1_in (n : Nat) (hn : 1 ≤ n) (ly : Nat) (l : List Task) (hmay : May l) (hfit : ∀ t ∈ l, t.fits) (i : Nat) (hi : i < l.length) (A : Option Addr) (c bl bi s : Nat) (J Jx : List RW → World → Prop) (W : World) (hJ : AbidesFrom W.heap.size J)
    (hY : ∀ pre x W, J pre W → pre.length < bigN → YieldAt Fence.wide (n - 1) Tryz.prog ly #[.int .u64 x.1] W fun e W' =>
      (e = .returned (.bool true) ∧ J (pre ++ [x]) W' ∧ KeepP s W W') ∨ (e = .returned (.bool false) ∧ Jx (pre ++ [x]) W'))
    (hR : Reads l i A c bl bi s W) (h0 : J [] W) :
    CallsIn Fence.wide n Tryz.prog 77 #[.func (.yield ly) #[] #[], .pointer (some ⟨bl, 0, none⟩), .pointer (some ⟨bi, 0, none⟩)] W fun e W' => (∃ v, e = .returned v) ∧
      ((∃ ys, RS l i ys ∧ J ys W') ∨ (∃ pre : List RW, True ∧ Jx pre W')) := by
  have hlen : l.length ≤ 1024 := (may_iff.1 hmay).2.1
  have hv := may_valid hmay
  have hq := hv.ok i hi
  have q1 := hq.c1
  have q2 := hq.cd
  have q3 := hq.j0
  have q4 := hq.dt
  have q5 := hq.tm
  have CI := rIs_any l hfit (by omega) i A c W hR.row
  rw [isB_may hmay hi] at CI
  have k1 : W.cell? ⟨bl, 0, none⟩ = some (.slice A l.length c) := by rw [Lib.cell_of_heap hR.l0]; rfl
  have k2 : W.cell? ⟨bi, 0, none⟩ = some (.int .i64 i) := by rw [Lib.cell_of_heap hR.i0]; rfl
  refine callsIn_of_wp Tryz.func77 rfl trivial ?_ rfl
  simp only [Tryz.ntmps77, List.size_toArray, List.length_cons, List.length_nil, Nat.reduceAdd, Nat.reduceSub, Array.replicate_succ, Array.replicate_zero, List.push_toArray, List.append_toArray, List.nil_append, List.cons_append]
  refine wpIn_wide.2 (wp_scope_straight ((wpIn_wide (n := n)).1 ?_))
  gi_wp2_with (first
    | (refine ⟨trivial, ?_⟩; gi_at_call 53; refine (callsIn_wide.2 CI).mono ?_; rintro e w' ⟨rfl, hk⟩))
  have hR1 := hR.keep (KeepP.kept hk)
  have hJ1 : J [] w' := hJ [] W w' none h0 (Kept.grownBy hk _) (fun r e => by cases e)
  have k3 := hk.cell k1
  have k4 := hk.cell k2
  obtain ⟨b, off, rfl, -, -, -, c3, c4, -, -⟩ := hR1.row.range (tsk_some hi)
  have hi0 : (0 : Int) ≤ i := by omega
  have hi1 : (i : Int) < l.length := by omega
  refine wpIn_wide.2 ?_
  go_quiet (fail)
  have hkq : Kept w' (w'.drewN nq) := (Kept.refl _).drewN nq
  have hR2 := hR1.keep (KeepP.kept hkq)
  have hJ2 : J [] (w'.drewN nq) := hJ [] w' _ none hJ1 (Kept.grownBy hkq _) (fun r e => by cases e)
  have CN : ∀ (W : World) (v : Int), Reads l i (some ⟨b, off, none⟩) c bl bi s W → 0 ≤ v → v ≤ 1099511627776 → Calls Tryz.prog 78 #[.slice (some ⟨b, off, none⟩) l.length c, .int .i64 i, .int .u64 v] W fun e w' => e = .returned (.int .u64 (needZ l i v)) ∧ Kept W w' := fun W v hr h0 h1 => Need_any l hmay hfit i hi v h0 h1 _ c W hr.row hr.tab
  have C0 := CN _ 0 hR2 (Int.le_refl _) (by decide)
  rw [needZ_zero] at C0
  have hnf := none_first hv hi
  have hnb : (tsk l i).c + Cad.block l i ≤ bigW := by have := (needZ_le hmay hi (v := 0) (Int.le_refl _) (by decide)).2; rw [needZ_zero] at this; exact this
  generalize hw0 : (tsk l i).c + Cad.block l i = w0 at *
  have Hmay := Lib.hid hmay
  have HN : Hid (∀ v : Int, 1 ≤ v → v ≤ 1099511627776 → 0 ≤ needZ l i v ∧ needZ l i v ≤ bigW) := Lib.hid (fun v h1 h2 => needZ_le hmay hi (by omega) h2)
  clear hmay CI hR hR1 hk k1 k2 hw0
  gi_wp2_with (refine ⟨trivial, ?_⟩; gi_at_call 78; refine (callsIn_wide.2 C0).mono ?_; rintro e w2 ⟨rfl, hk2⟩)
  refine wpIn_label ?_
  gi_wp2
  have hR3 := hR2.keep (KeepP.kept hk2)
  have hJ3 : J [] w2 := hJ [] _ w2 none hJ2 (Kept.grownBy hk2 _) (fun r e => by cases e)
  gi_loopw [5] (fun wv wr => ∃ (x : RW) (ys : List RW), wv = .int .u64 x.1 ∧ NoneBelow l i x.1 ∧ (ys.length : Int) < x.1 ∧ J ys wr ∧ Reads l i (some ⟨b, off, none⟩) c bl bi s wr) (fun wv _ => (4503599627370496 - intOf wv).toNat)
  case atStart => exact ⟨⟨w0, by have := hnf.1; omega, hnb⟩, [], rfl, hnf, by have := hnf.1; simp; omega, hJ3, hR3⟩
  case round =>
    obtain ⟨x, ys, rfl, hnb, hlen, hJy, hRy⟩ := hrel
    obtain ⟨fn, tmps, assign, body, hy, hRr⟩ := hY ys x wr hJy (by unfold bigN; have := x.2.2; unfold bigW at this; omega)
    have HNN := Lib.hid hnb
    have Hlen := Lib.hid hlen
    clear hnb hlen
    gi_wp2
    refine hRr.mono ?_
    rintro e W3 (⟨rfl, hJ3, hk3⟩ | ⟨rfl, hJx3⟩)
    · have hRz := hRy.keep hk3
      have z1 : W3.cell? ⟨bl, 0, none⟩ = some (.slice (some ⟨b, off, none⟩) l.length c) := by rw [Lib.cell_of_heap hRz.l0]; rfl
      have z2 : W3.cell? ⟨bi, 0, none⟩ = some (.int .i64 i) := by rw [Lib.cell_of_heap hRz.i0]; rfl
      have hx1 := x.2.1
      have hx2 := x.2.2
      unfold bigW at hx2
      have hq5 := q5
      by_cases hle : x.1 ≤ (tsk l i).d - (tsk l i).j
      · have hxp : 1 ≤ x.1 := HNN.out.1
        have hd1 : decide (x.1 ≤ (tsk l i).d - (tsk l i).j) = true := decide_eq_true hle
        have C1 := CN _ x.1 hRz (by omega) (by omega)
        rw [needZ_pos _ _ hxp] at C1
        have hN1 := HN.out x.1 hxp (by omega)
        rw [needZ_pos _ _ hxp] at hN1
        by_cases hne : Cad.need l i x.1 = x.1
        · have Hne := Lib.hid hne
          have hb2 : (Cad.need l i x.1 == x.1) = true := beq_iff_eq.2 hne
          clear hne hle
          gi_wp2_with (refine ⟨trivial, ?_⟩; gi_at_call 78; refine (callsIn_wide.2 C1).mono ?_; rintro e w4 ⟨rfl, hk4⟩)
          rw [noGoto_normal]
          go_end0
          exact ⟨⟨_, rfl⟩, .inl ⟨ys ++ [x], ⟨ys, x, rfl, HNN.out, .inr ⟨of_decide_eq_true hd1, Hne.out⟩⟩, hJ _ _ _ none hJ3 (Kept.grownBy hk4 _) (fun r e => by cases e)⟩⟩
        · have hst := none_step hv hi HNN.out hne
          have Hst := Lib.hid hst
          have Hne := Lib.hid hne
          have hb2 : (Cad.need l i x.1 == x.1) = false := beq_eq_false_iff_ne.2 hne
          clear hne hle hst
          gi_wp2_with (refine ⟨trivial, ?_⟩; gi_at_call 78; refine (callsIn_wide.2 C1).mono ?_; rintro e w4 ⟨rfl, hk4⟩)
          go_roundw
          case rel =>
            have h1 := Hst.out.2
            have h2 := Hlen.out
            exact ⟨⟨Cad.need l i x.1, hN1.1, hN1.2⟩, ys ++ [x], rfl, Hst.out.1, by rw [List.length_append]; simp; omega, hJ _ _ _ none hJ3 (Kept.grownBy hk4 _) (fun r e => by cases e), hRz.keep (KeepP.kept hk4)⟩
          case measure =>
            have h1 := Hst.out.2
            have h2 := hN1.2
            unfold bigW at h2
            simp only [intOf]
            omega
      · have hd1 : decide (x.1 ≤ (tsk l i).d - (tsk l i).j) = false := decide_eq_false hle
        have Hle := Lib.hid hle
        clear hle
        gi_wp2
        rw [noGoto_normal]
        go_end0
        exact ⟨⟨_, rfl⟩, .inl ⟨ys ++ [x], ⟨ys, x, rfl, HNN.out, .inl (by have := Hle.out; omega)⟩, hJ3⟩⟩
    · gi_wp2
      rw [noGoto_normal]
      go_end0
      exact ⟨⟨_, rfl⟩, .inr ⟨ys ++ [x], trivial, hJx3⟩⟩

/-- **rta.Each HANDS BACK A VALUE THAT TELLS A RECKONING'S NUMBERS; or a prefix.** -/
theorem Each_stops (n : Nat) (hn : 1 ≤ n) (l : List Task) (hmay : May l) (hfit : ∀ t ∈ l, t.fits) (i : Nat) (hi : i < l.length) (A : Option Addr) (c bl bi s : Nat) (w : World) (hR : Reads l i A c bl bi s w) :
    SeqStopsK Fence.wide n Tryz.prog 77 #[.pointer (some ⟨bl, 0, none⟩), .pointer (some ⟨bi, 0, none⟩)] (fun x : RW => #[Value.int .u64 x.1]) (KeepP s) (RS l i) (fun _ => True) bigN w := fun ly J Jx W hW hJ hJx hY h0 => by
  refine (Each1_in n hn ly l hmay hfit i hi A c bl bi s J Jx W hJ hY (hR.keep (KeepP.kept hW)) h0).mono ?_
  rintro e W' ⟨hv, (⟨ys, hys, hJ'⟩ | ⟨pre, hpre, hJ'⟩)⟩
  · exact ⟨hv, .inl ⟨ys, hys, hJ'⟩⟩
  · exact ⟨hv, .inr ⟨pre, trivial, hJ'⟩⟩
end Go.Proofs.YtphdcoegkfmaeaaGreatDoor
