/- (marks.Set).All: a set's numbers, rising: the iterator. -/
import Derived.Test.YtphdcoegkfmaeaaGreatDoorNext
import Derived.Test.YtphdcoegkfmaeaaGreatDoorFence
set_option linter.unusedVariables false
set_option linter.unusedSimpArgs false
namespace Go.Proofs.YtphdcoegkfmaeaaGreatDoor
open Go.RowKit Go.Shelf
attribute [local go_sem] Oper.semAt_some

/-- A set's numbers below one. -/
def upto (m f : Nat) : List Nat := (List.range f).filter (fun k => m.testBit k)
def mem (m : Nat) : List Nat := upto m 1024
theorem upto_stay {m f : Nat} : ∀ {g : Nat}, f ≤ g → (∀ j, f ≤ j → j < g → m.testBit j = false) → upto m g = upto m f
  | 0, h, _ => by have : f = 0 := by omega
                  subst this; rfl
  | g + 1, h, hn => by
    by_cases e : f = g + 1
    · subst e; rfl
    · have ih := upto_stay (m := m) (g := g) (by omega) (fun j h1 h2 => hn j h1 (by omega))
      unfold upto at ih ⊢
      rw [List.range_succ, List.filter_append, ih]
      simp [hn g (by omega) (by omega)]
theorem upto_some {m f k : Nat} (h : nxt m f = some k) : upto m (k + 1) = upto m f ++ [k] := by
  obtain ⟨h1, h2, h3, h4⟩ := nxt_is h
  have := upto_stay h1 h4
  unfold upto at this ⊢
  rw [List.range_succ, List.filter_append, this]
  simp [h3]
theorem nxt_not {m f : Nat} (h : nxt m f = none) : ∀ j, f ≤ j → j < 1024 → m.testBit j = false := by
  intro j h1 h2
  unfold nxt at h
  rw [List.find?_eq_none] at h
  have := h j (by simpa using h2)
  simpa [h1] using this
theorem upto_none {m f : Nat} (hf : f ≤ 1024) (h : nxt m f = none) : mem m = upto m f := upto_stay hf (nxt_not h)
theorem upto_prefix {m f : Nat} (hf : f ≤ 1024) : upto m f <+: mem m := by
  unfold mem upto
  have e : 1024 = f + (1024 - f) := by omega
  rw [e, List.range_add, List.filter_append]
  exact List.prefix_append _ _
theorem upto_length {m f : Nat} : (upto m f).length ≤ f := by
  have := List.length_filter_le (fun k => m.testBit k) (List.range f)
  simpa [upto] using this

set_option maxRecDepth 100000 in
/-- s.All(): the set is boxed; the function value captures the box. -/
theorem All_any (m : Nat) (w : World) : Calls Tryz.prog 128 #[.agg (setCells m)] w fun e w' =>
    e = .returned (.func (.func 144) #[] #[.pointer (some ⟨w.heap.size, 0, none⟩)]) ∧ w' = w.alloc (.cells (setCells m) 176) := by
  go_enter Tryz.func128, Tryz.ntmps128
  go_wp2
  go_ret
  exact ⟨rfl, rfl⟩

/-- What the iterator reads stays: the set's box, the table. -/
def KeepS (Bs : Nat) (W W' : World) : Prop := (∀ cs T fr, W.heap[Bs]? = some (.cells cs T fr) → W'.heap[Bs]? = some (.cells cs T fr)) ∧ (Tab64 W → Tab64 W')
theorem KeepS.refl {Bs : Nat} (W : World) : KeepS Bs W W := ⟨fun _ _ _ h => h, fun h => h⟩
theorem KeepS.trans {Bs : Nat} {A B C : World} (h : KeepS Bs A B) (k : KeepS Bs B C) : KeepS Bs A C := ⟨fun _ _ _ e => k.1 _ _ _ (h.1 _ _ _ e), fun e => k.2 (h.2 e)⟩
theorem KeepS.kept {Bs : Nat} {W W' : World} (h : Kept W W') : KeepS Bs W W' := ⟨fun _ _ _ e => h.heap e, fun e => e.kept h⟩
theorem KeepS.set {Bs : Nat} {W : World} {b : Nat} (hb : b ≠ Bs) (hg : b ≠ 5) (u : Value) : KeepS Bs W (W.setCell ⟨b, 0, none⟩ u) :=
  ⟨fun _ _ _ e => (heap_setCell_other _ _ _ _ (fun e' => hb e'.symm)).trans e, fun e j hj => by
    rw [World.cell?_of_block (heap_setCell_other _ _ _ _ (fun e' => hg e'.symm))]; exact e j hj⟩
theorem KeepS.put {Bs : Nat} {W : World} {l : Nat} {o : Obj} (o' : Obj) (hl : W.heap[l]? = some o) (hc : o.isCells = false) : KeepS Bs W (W.putObj l o') :=
  ⟨fun cs T fr e => by
    by_cases hne : Bs = l
    · subst hne; rw [e] at hl; cases hl; cases hc
    · rw [World.putObj_heap_other hne]; exact e, fun e j hj => by
    by_cases hne : 5 = l
    · have h1 := e 0 (by decide)
      obtain ⟨o2, ho2, hc2⟩ := cells_of_cell h1
      rw [hne] at ho2
      rw [hl] at ho2
      cases ho2
      rw [hc] at hc2; cases hc2
    · rw [World.cell?_of_block (World.putObj_heap_other hne)]; exact e j hj⟩
def isT : Value → Bool | .bool b => b | _ => false

set_option maxRecDepth 100000 in
set_option maxHeartbeats 2000000 in
theorem All1_in (n : Nat) (hn : 1 ≤ n) (l Bs m : Nat) (J Jx : List Nat → World → Prop) (W : World) (hJ : AbidesFrom W.heap.size J)
    (hY : ∀ pre x W, J pre W → pre.length < 1024 → x ∈ mem m → YieldAt Fence.wide (n - 1) Tryz.prog l #[.int .i64 (x : Int)] W fun e W' =>
      (e = .returned (.bool true) ∧ J (pre ++ [x]) W' ∧ KeepS Bs W W') ∨ (e = .returned (.bool false) ∧ Jx (pre ++ [x]) W'))
    (hBs : W.heap[Bs]? = some (.cells (setCells m) 176 (0, 0))) (hT : Tab64 W) (hg : 5 < Bs) (h0 : J [] W) :
    CallsIn Fence.wide n Tryz.prog 144 #[.func (.yield l) #[] #[], .pointer (some ⟨Bs, 0, none⟩)] W fun e W' => (∃ v, e = .returned v) ∧
      ((∃ ys, ys = mem m ∧ J ys W') ∨ (∃ pre, pre <+: mem m ∧ Jx pre W')) := by
  refine callsIn_of_wp Tryz.func144 rfl trivial ?_ rfl
  simp only [Tryz.ntmps144, List.size_toArray, List.length_cons, List.length_nil, Nat.reduceAdd, Nat.reduceSub, Array.replicate_succ, Array.replicate_zero, List.push_toArray, List.append_toArray, List.nil_append, List.cons_append]
  gi_wp2_with (first
    | (refine wpListIn_load_row rfl 176 _ rfl _ rfl 176 _ _ _ hBs Tryz.underlying176 rfl (by kernel_rfl) ?_)
    | (refine ⟨trivial, ?_⟩; gi_at_call 145; refine (callsIn_wide.2 (First_any m _ hT)).mono ?_; rintro e w' ⟨rfl, hk⟩; unfold nxtV))
  have hW0 : KeepS Bs W w' := KeepS.kept hk
  have hJ0 : J [] w' := hJ [] W w' none h0 (Kept.grownBy hk _) (fun r e => by cases e)
  clear hk
  gi_loopw [3, 4] (fun nv iv wr => ∃ f, f ≤ 1024 ∧ nv = .int .i64 ((nxt m f).getD 0 : Nat) ∧ iv = .bool (nxt m f).isSome ∧ J (upto m f) wr ∧ KeepS Bs W wr) (fun nv iv _ => if isT iv then 1025 - (intOf nv).toNat else 0)
  case atStart => exact ⟨0, by omega, rfl, rfl, hJ0, hW0⟩
  case round =>
    obtain ⟨f, hf, rfl, rfl, hJf, hWf⟩ := hrel
    cases h : nxt m f with
    | none =>
      have hall := upto_none hf h
      have Hall := Lib.hid hall
      clear hall
      gi_wp2
      go_end0
      exact ⟨⟨_, rfl⟩, .inl ⟨_, Hall.out.symm, hJf⟩⟩
    | some k =>
      obtain ⟨k1, k2, k3, k4⟩ := nxt_is h
      have hup := upto_some h
      have hmem : k ∈ mem m := by unfold mem upto; simp [k2, k3]
      obtain ⟨fn, tmps, assign, body, hy, hR⟩ := hY (upto m f) k wr hJf (Nat.lt_of_le_of_lt upto_length (by omega)) hmem
      have Hup := Lib.hid hup
      have Hk4 := Lib.hid k4
      clear hup k4 k3 hmem
      gi_wp2
      refine hR.mono ?_
      rintro e W3 (⟨rfl, hJ3, hk3⟩ | ⟨rfl, hJx3⟩)
      · have hB3 : W3.heap[Bs]? = some (.cells (setCells m) 176 (0, 0)) := (hWf.trans hk3).1 _ _ _ hBs
        have hT3 : Tab64 W3 := (hWf.trans hk3).2 hT
        have hs3 : Bs < W3.heap.size := (Array.getElem?_eq_some_iff.1 hB3).1
        by_cases hk' : k = 1023
        · subst hk'
          gi_wp2_with (first
            | (refine wpListIn_load_row rfl 176 _ rfl _ rfl 176 _ _ _ hB3 Tryz.underlying176 rfl (by kernel_rfl) ?_)
            | (refine ⟨trivial, ?_⟩; gi_at_call 146; refine (callsIn_wide.2 (Next_end m _ (by decide) (by decide) _)).mono ?_; rintro e w4 ⟨rfl, hk4⟩))
          go_roundw
          case rel => exact ⟨1024, by omega, by rw [nxt_none (fun j h1 h2 => by omega)]; rfl, by rw [nxt_none (fun j h1 h2 => by omega)]; rfl, by rw [show (1024 : Nat) = 1023 + 1 from rfl, Hup.out]; exact hJ _ _ _ none hJ3 (Kept.grownBy hk4 _) (fun r e => by cases e), (hWf.trans hk3).trans (KeepS.kept hk4)⟩
          case measure => simp [isT, intOf]
        · gi_wp2_with (first
            | (refine wpListIn_load_row rfl 176 _ rfl _ rfl 176 _ _ _ hB3 Tryz.underlying176 rfl (by kernel_rfl) ?_)
            | (refine ⟨trivial, ?_⟩; gi_at_call 146; refine (callsIn_wide.2 (Next_any m (k + 1) _ (by simp) (by omega) _ hT3)).mono ?_; rintro e w4 ⟨rfl, hk4⟩; unfold nxtV))
          go_roundw
          case rel => exact ⟨k + 1, by omega, rfl, rfl, by rw [Hup.out]; exact hJ _ _ _ none hJ3 (Kept.grownBy hk4 _) (fun r e => by cases e), (hWf.trans hk3).trans (KeepS.kept hk4)⟩
          case measure =>
            cases h2 : nxt m (k + 1) with
            | none => simp [isT, intOf]; omega
            | some k2 =>
              have := (nxt_is h2).1
              simp [isT, intOf]; omega
      · gi_wp2
        refine bodyPost_ret (results_none rfl _ _ _) rfl ?_
        exact ⟨⟨_, rfl⟩, .inr ⟨_, by rw [← Hup.out]; exact upto_prefix (by omega), hJx3⟩⟩

/-- **s.All() HANDS BACK A VALUE THAT TELLS ALL OF IT, rising; or a prefix.** -/
theorem All_stops (n : Nat) (hn : 1 ≤ n) (Bs m : Nat) (w : World) (hBs : w.heap[Bs]? = some (.cells (setCells m) 176 (0, 0))) (hT : Tab64 w) (hg : 5 < Bs) :
    SeqStopsK Fence.wide n Tryz.prog 144 #[.pointer (some ⟨Bs, 0, none⟩)] (fun x : { x : Nat // x ∈ mem m } => #[Value.int .i64 (x.1 : Int)]) (KeepS Bs) (fun ys => ys.map (·.1) = mem m) (fun pre => pre.map (·.1) <+: mem m) 1024 w := fun l J Jx W hW hJ hJx hY h0 => by
  have hB : Bs < w.heap.size := (Array.getElem?_eq_some_iff.1 hBs).1
  have hK : Kept w W := hW
  refine (All1_in n hn l Bs m (fun pre' W => ∃ p : List { x : Nat // x ∈ mem m }, p.map (·.1) = pre' ∧ J p W) (fun pre' W => ∃ p : List { x : Nat // x ∈ mem m }, p.map (·.1) = pre' ∧ Jx p W) W
    (fun s A B row hs hg hr => by obtain ⟨p, e, h⟩ := hs; exact ⟨p, e, hJ p A B row h hg hr⟩)
    (fun pre x W1 hs hlen hx => by
      obtain ⟨p, e, h⟩ := hs
      refine (hY p ⟨x, hx⟩ W1 h (by rw [← e] at hlen; simpa using hlen)).mono ?_
      rintro e' W' (⟨r1, r2, r3⟩ | ⟨r1, r2⟩)
      · exact .inl ⟨r1, ⟨_, by simp [e], r2⟩, r3⟩
      · exact .inr ⟨r1, ⟨_, by simp [e], r2⟩⟩)
    ((hW.block Bs hB).trans hBs) (hT.kept hK) hg ⟨[], rfl, h0⟩).mono ?_
  rintro e W' ⟨hv, (⟨ys, hys, p, hp, hJ'⟩ | ⟨pre, hpre, p, hp, hJ'⟩)⟩
  · exact ⟨hv, .inl ⟨p, hp.trans hys, hJ'⟩⟩
  · exact ⟨hv, .inr ⟨p, by show List.map _ p <+: mem m; rw [hp]; exact hpre, hJ'⟩⟩
end Go.Proofs.YtphdcoegkfmaeaaGreatDoor
