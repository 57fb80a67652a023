/- Words that are thought of: all of them, in turn. -/
import Derived.Test.YtpakfelekphbmaaAll
namespace Go.Proofs.Ck
open Go Go.RowKit

section
variable {P : Program} {w : World} {mt kt et : TypeId} {mb clock : Nat} {es : Array MapEntry} {p : List (Nat × Nat)}
theorem run_lookup1 (hm : P.underlying mt = some (.map kt et)) (hk : P.underlying kt = some (.int .u64)) (hb : w.heap[mb]? = some (.map es clock)) (he : Entries es p) {off v : Nat} (h : plook p off = some v) :
    (Instr.lookup mt (.map (some mb)) (.int .u64 (off : Int)) false).run P w = .ok (.int .u64 (v : Int)) w := by
  have hc : ∀ b, (Instr.checkKey b 10000 kt (.int .u64 (off : Int))).run P w = .ok () w := fun b => MapKept.run_checkKey (k := .int .u64 (off : Int)) hk (by simp [MapKept.IsKey]) b 9999
  rcases findNow_at off es.toList p 0 he with ⟨h1, _⟩ | ⟨j, v', h1, _, _, _, h5⟩
  · rw [h1] at h; cases h
  · rw [h1] at h
    cases h
    simp [Instr.lookup, run_underlying hm, MapKept.run_getObj_map hb, hc, MapKept.run_findKey hk h5, Result.andThen]
end
theorem plook_get {p : List (Nat × Nat)} (hd : (p.map (·.1)).Nodup) {i : Nat} (hi : i < p.length) : plook p (p.getD i (0, 0)).1 = some (p.getD i (0, 0)).2 := by
  refine plook_at hi rfl (fun j hj e => ?_)
  have h1 : (p.map (·.1))[i]? = some (p.getD i (0, 0)).1 := by rw [List.getElem?_map, List.getElem?_eq_getElem hi, List.getD_eq_getElem?_getD, List.getElem?_eq_getElem hi]; rfl
  have h2 : (p.map (·.1))[j]? = some (p.getD i (0, 0)).1 := by rw [List.getElem?_map, List.getElem?_eq_getElem (show j < p.length by omega), ← e, List.getD_eq_getElem?_getD, List.getElem?_eq_getElem (show j < p.length by omega)]; rfl
  have := nodup_at hd h1 h2
  omega
theorem u64s_at {l : List Nat} {i : Nat} (hi : i < l.length) : (u64s l)[i]? = some (.int .u64 ((l.getD i 0 : Nat) : Int)) := by
  simp [u64s, List.getD_eq_getElem?_getD, List.getElem?_eq_getElem hi]

theorem TxAt.keep {w W : World} {base : Nat} {v : Value} {M : Nat → Prop} {σ : St} (h : TxAt w base v M σ) (hs : ∀ b, b < w.heap.size → W.heap[b]? = w.heap[b]?) : TxAt W base v M σ := by
  obtain ⟨tb, mb, T, sb, bb, cap, cs, h1, rfl, h3⟩ := h
  refine ⟨tb, mb, T, sb, bb, cap, cs, h1, rfl, ?_⟩
  have go : ∀ {b : Nat} {o : Obj}, w.heap[b]? = some o → W.heap[b]? = some o := fun hb => (hs _ (lt_of_heap hb)).trans hb
  obtain ⟨es, c, hm, he⟩ := h3.map
  exact { h3 with
    tx := go h3.tx
    seg := h3.seg.moved (hs _ h3.seg.lt) (hs _ h3.seg.lt')
    map := ⟨es, c, go hm, he⟩
    turn := own_moved h3.turn (fun b hb => hs _ (h3.turn.lt b hb).2) }

attribute [local go_sem] Oper.semAt_some wide_fn wide_depth wide_in_fn wide_in_depth

set_option maxRecDepth 100000 in
set_option maxHeartbeats 1000000 in
theorem puts_iter {w : World} {base : Nat} {v : Value} {M : Nat → Prop} {σ : St} (h : TxAt w base v M σ) (hn : σ.p.length < 1000000) (B : Nat) (W0 : World) (hB : W0.heap[B]? = some (.cells #[v] 65 (0, 0))) (hs : ∀ b, b < w.heap.size → W0.heap[b]? = w.heap[b]?) :
    Iter Try.prog 198 #[.pointer (some ⟨B, 0, none⟩)] σ.p.length (fun i => #[.int .u64 ((σ.p.getD i (0, 0)).1 : Int), .int .u64 ((σ.p.getD i (0, 0)).2 : Int)]) (fun b => b < w.heap.size ∨ b = B) W0 := by
  intro l J Jx W hWz hT hJ hY hJx h0
  obtain ⟨p, hp⟩ := h.any.ptr
  subst hp
  have hW : ∀ b, b < w.heap.size → W.heap[b]? = w.heap[b]? := fun b hb => (hT b (.inl hb)).trans (hs b hb)
  have hBW : W.heap[B]? = some (.cells #[.pointer p] 65 (0, 0)) := (hT B (.inr rfl)).trans hB
  obtain ⟨tb, mb, T, sb, bb, cap, cs, h1, -, h3⟩ := h
  cases h1
  have go : ∀ {W : World}, (∀ b, b < w.heap.size → W.heap[b]? = w.heap[b]?) → ∀ {b : Nat} {o : Obj}, w.heap[b]? = some o → W.heap[b]? = some o := fun hW _ _ hb => (hW _ (lt_of_heap hb)).trans hb
  obtain ⟨A, c, rfl, -, -, hrow⟩ := Row.of_own h3.turn
  obtain ⟨es, clock, hm, he⟩ := h3.map
  have hnd := h3.nodup
  have htx := h3.tx
  have hrl : ∀ (W : World), (∀ b, b < w.heap.size → W.heap[b]? = w.heap[b]?) → Row (fun _ => True) W A σ.p.length 1 (u64s (σ.p.map (·.1))) := fun W hW => hrow.move fun b o _ ho => ⟨(hW b (lt_of_heap ho)).trans ho, trivial⟩
  clear h3 hrow
  have c0 : W.cell? ⟨B, 0, none⟩ = some (.pointer (some ⟨tb, 0, none⟩)) := by rw [cell_of_heap hBW]; rfl
  have c2 : W.cell? ⟨tb, 2, none⟩ = some (.slice A σ.p.length c) := by rw [cell_of_heap (go hW htx)]; rfl
  refine callsIn_of_wp Try.func198 rfl trivial ?_ rfl
  simp only [Try.ntmps198, List.size_toArray, List.length_cons, List.length_nil, Nat.reduceAdd, Nat.reduceSub, Array.replicate_succ, Array.replicate_zero, List.push_toArray, List.append_toArray, List.nil_append, List.cons_append]
  gi_wp2
  clear c0 c2
  gi_loopw [10] (fun i wr => ∃ k : Nat, k ≤ σ.p.length ∧ i = .int .i64 (k : Int) ∧ J k wr ∧ (∀ x, (x < w.heap.size ∨ x = B) → wr.heap[x]? = W0.heap[x]?))
    (fun i _ => σ.p.length - (intOf i).toNat)
  case atStart => exact ⟨0, Nat.zero_le _, rfl, h0, hT⟩
  case round =>
    obtain ⟨k, hk, rfl, hJs, hTr⟩ := hrel
    by_cases hlt : k < σ.p.length
    · have hWr : ∀ b, b < w.heap.size → wr.heap[b]? = w.heap[b]? := fun b hb => (hTr b (.inl hb)).trans (hs b hb)
      have hBr : wr.heap[B]? = some (.cells #[.pointer (some ⟨tb, 0, none⟩)] 65 (0, 0)) := (hTr B (.inr rfl)).trans hB
      have c0 : wr.cell? ⟨B, 0, none⟩ = some (.pointer (some ⟨tb, 0, none⟩)) := by rw [cell_of_heap hBr]; rfl
      have c1 : wr.cell? ⟨tb, 1, none⟩ = some (.map (some mb)) := by rw [cell_of_heap (go hWr htx)]; rfl
      obtain ⟨b, off, hA, -, hcell⟩ := (hrl wr hWr).pos (by omega) (by omega)
      have hx := hcell k _ (u64s_at (by simpa using hlt))
      have hgd : (σ.p.map (·.1)).getD k 0 = (σ.p.getD k (0, 0)).1 := by simp [List.getD_eq_getElem?_getD, List.getElem?_map, List.getElem?_eq_getElem hlt]
      rw [hgd] at hx
      have hlk := run_lookup1 (P := Try.prog) Try.underlying192 Try.underlying22 (go hWr hm) he (plook_get hnd hlt)
      obtain ⟨fn, tmps, assign, body, hy, hR⟩ := hY k wr hlt hJs
      have HA := Lib.hid hA
      subst hA
      clear hcell hgd he hnd hY
      generalize (σ.p.getD k (0, 0)).1 = x at *
      generalize (σ.p.getD k (0, 0)).2 = y at *
      have g0 : decide ((k : Int) < σ.p.length) = true := decide_eq_true (by omega)
      gi_wp2
      refine hR.mono ?_
      rintro e W3 ⟨hz3, hT3, (⟨rfl, hJ3⟩ | ⟨rfl, hJx3⟩)⟩
      · gi_wp2
        go_roundw
        case rel => exact ⟨k + 1, by omega, by go_num, hJ3, fun x hx => (hT3 x hx).trans (hTr x hx)⟩
        case measure => simp [intOf]; omega
      · gi_wp2
        refine bodyPost_ret (results_none rfl _ _ _) rfl ?_
        exact ⟨⟨_, rfl⟩, .inr ⟨k, hlt, hJx3⟩⟩
    · obtain rfl : k = σ.p.length := by omega
      have g0 : decide ((σ.p.length : Int) < σ.p.length) = false := decide_eq_false (by omega)
      gi_wp2
      go_end0
      exact ⟨⟨_, rfl⟩, .inl hJs⟩

theorem allp_call (w : World) (p : Option Addr) : Calls Try.prog 173 #[.pointer p] w fun e w' => ∃ B, e = .returned (.func (.func 198) #[] #[.pointer (some ⟨B, 0, none⟩)]) ∧ w.heap.size ≤ B ∧ w'.heap[B]? = some (.cells #[.pointer p] 65 (0, 0)) ∧ Grow w w' := by
  go_enter Try.func173, Try.ntmps173
  go_wp2
  go_ret
  exact ⟨_, rfl, Nat.le_refl _, World.alloc_heap_new w _, (Below.refl _ _).alloc (Nat.le_refl _) _⟩
theorem puts_take {p : List (Nat × Nat)} {i : Nat} (hi : i < p.length) : puts (p.take (i + 1)) = puts (p.take i) ++ [.int .u64 ((p.getD i (0, 0)).1 : Int), .int .u64 ((p.getD i (0, 0)).2 : Int)] := by
  rw [take_succ_getD' hi]
  simp [puts]

set_option maxRecDepth 100000 in
set_option maxHeartbeats 1000000 in
theorem puts_call {w : World} {base : Nat} {v : Value} {M : Nat → Prop} {σ : St} (h : TxAt w base v M σ) (hn : σ.p.length < 1000000) :
    Calls Try.prog 122 #[v] w fun e w' => ∃ A c, e = .returned (.slice A σ.p.length c) ∧ Row (fun b => w.heap.size ≤ b) w' A σ.p.length 2 (puts σ.p) ∧ Grow w w' := by
  obtain ⟨p, hp⟩ : ∃ p, v = .pointer (some p) := by obtain ⟨tb, mb, T, sb, bb, cap, cs, h1, _⟩ := h; exact ⟨_, h1⟩
  subst hp
  have hg0 : Grow w (w.alloc (.cells #[.slice none 0 0] 64)) := (Below.refl _ w).alloc (Nat.le_refl _) _
  have hb1 : (w.alloc (.cells #[.slice none 0 0] 64)).heap[w.heap.size]? = some (.cells #[.slice none 0 0] 64 (0, 0)) := World.alloc_heap_new w _
  refine calls_of_range Try.func122 rfl ?_
  simp only [Try.ntmps122, List.size_toArray, List.length_cons, List.length_nil, Nat.reduceAdd, Nat.reduceSub, Array.replicate_succ, Array.replicate_zero, List.push_toArray, List.append_toArray, List.nil_append, List.cons_append]
  gi_wp2_with (gi_at_call 173; refine (ranged (allp_call _ _)).mono ?_; rintro e w1 ⟨B, rfl, hBge, hB, hg1⟩)
  obtain ⟨i73, hi3, hz3, hs3, hb3⟩ := info_parts info73
  have hb1 := hg1.heap hb1
  have hBge : w.heap.size + 1 ≤ B := by simpa using hBge
  have hg := hg0.trans hg1
  have hsz : w.heap.size + 1 ≤ w1.heap.size := by have := lt_of_heap hB; omega
  clear hg0 hg1
  refine wp_range (gf := 198) (lb := #[.pointer (some ⟨B, 0, none⟩)]) rfl (fun args w => Try.call198 args w)
    (puts_iter h hn B w1 hB (fun b hb => hg.block b hb))
    (by rintro b (hb | rfl); omega; exact lt_of_heap hB) (fun _ => rfl)
    (fun i X => ∃ vv, X.heap[w.heap.size]? = some (.cells #[vv] 64 (0, 0)) ∧ X.ownsRow w.heap.size 73 2 vv (σ.p.take i).length (puts (σ.p.take i)) ∧ X.heap[B]? = some (.cells #[.pointer (some p)] 65 (0, 0)) ∧ Grow w X)
    (fun _ _ _ => False)
    (fun i A C hs hm => ?_) (fun _ _ _ _ hs _ => hs)
    ⟨.slice none 0 0, hb1, World.ownsRow_nil _ _ _ _, hB, hg⟩
    (fun i => { tmps := #[Value.pointer (some p), undef, Value.slice none 0 0, Value.pointer (some { block := w.heap.size, off := 0 }),
          .int .u64 ((σ.p.getD i (0, 0)).1 : Int), .int .u64 ((σ.p.getD i (0, 0)).2 : Int), Value.pointer (some p), Value.bool false, Value.pointer (some p),
          Value.func (Fn.func 198) #[] #[Value.pointer (some { block := B, off := 0 })], .int .u64 ((σ.p.getD i (0, 0)).1 : Int), .int .u64 ((σ.p.getD i (0, 0)).2 : Int),
          undef, undef, undef, undef, undef, undef, undef], defers := [] }) ?assign ?body ?done ?stop
  · obtain ⟨vv, k1, k2, k4, k5⟩ := hs
    refine ⟨vv, hm.heap k1, own_moved k2 (fun b hb => ?_), hm.heap k4, hm.below k5 (by omega) k5.size⟩
    obtain ⟨cur, hc⟩ := own_cells k2 hb
    exact (hm.heap hc).trans hc.symm
  case assign =>
    intro l i X K hK
    gi_wp2
    exact hK
  case body =>
    rintro l i X hi ⟨vv, k1, k2, k4, k5⟩
    have c1 : X.cell? ⟨w.heap.size, 0, none⟩ = some vv := by rw [cell_of_heap k1]; rfl
    have f1 := frozen_of_heap k1 0
    have HST := Lib.hid (puts_take hi)
    have hln : (σ.p.take i).length = i := by rw [List.length_take]; omega
    have hln2 : (σ.p.take (i + 1)).length = i + 1 := by rw [List.length_take]; omega
    have HN := Lib.hid hln2
    rw [hln] at k2
    clear hln hln2
    generalize puts (σ.p.take i) = xs at *
    generalize (σ.p.getD i (0, 0)).1 = x at *
    generalize (σ.p.getD i (0, 0)).2 = y at *
    have hbase : w.heap.size ≤ X.heap.size := k5.size
    have q1 := lt_of_heap k1
    gi_wp2_with (gi_at_builtin; refine wpListIn_push X rfl (.tmp 12) (.tmp 16) 64 rfl w.heap.size 73 i73 _ 2 16 Try.underlying64 hi3 hz3 hs3 hb3 rfl (by decide) vv i _ rfl k2 #[.int .u64 (x : Int), .int .u64 (y : Int)] rfl rfl (by simp [Value.oneCell']) rfl (by unfold maxLen; omega) (by omega) hbase ?_)
    intro v' w2 hown ho2
    obtain ⟨A', c', rfl⟩ : ∃ A c, v' = .slice A (i + 1) c := by
      obtain ⟨g, c, _, e, _⟩ := own_form hown (by omega)
      exact ⟨_, c, e⟩
    have hnT : ∀ {k : Nat} {c : Array Value} {t : TypeId} {f : Nat × Nat}, X.heap[k]? = some (.cells c t f) → t ≠ 73 → ¬ vv.ownBlock = some k := fun hk ht e => by
      obtain ⟨cur, hc⟩ := own_cells k2 e
      rw [hk] at hc
      cases hc
      exact ht rfl
    have k1' := ho2.heap k1 (hnT k1 (by decide))
    have k4' := ho2.heap k4 (hnT k4 (by decide))
    have k5' : Grow w w2 := Below.trans k5 (ho2.below hbase (own_ge k2))
    have hheld : Held (fun b => b < w.heap.size ∨ b = B) X w2 := ⟨ho2.size, fun b hb => ho2.block b (by rcases hb with hb | rfl; omega; exact lt_of_heap k4) (fun e => by
      rcases hb with hb | rfl
      · have := own_ge k2 b e; omega
      · exact hnT k4 (by decide) e), fun k o hk hc => ho2.heap hk (fun e => by
        obtain ⟨cur, hc'⟩ := own_cells k2 e
        rw [hk] at hc'
        cases hc'
        cases hc)⟩
    have c1' : w2.cell? ⟨w.heap.size, 0, none⟩ = some vv := by rw [cell_of_heap k1']; rfl
    have f1' := frozen_of_heap k1' 0
    clear c1 f1 k1 k4 k5 ho2 hnT k2
    gi_wp2
    have hnb : ¬ w.heap.size = B := by omega
    refine ⟨hheld.setCell (by simp; omega) _, _, heap_setCell_row k1' _, ?_, ?_, k5'.setCell (by simp) _⟩
    · rw [HST.out, HN.out]
      refine own_moved hown (fun b hb => ?_)
      obtain ⟨cur, hc⟩ := own_cells hown hb
      exact Below.heap_setCell _ _ _ _ (fun (e : b = w.heap.size) => by rw [e, k1'] at hc; cases hc)
    · exact (Below.heap_setCell _ _ _ _ (by simp; omega)).trans k4'
  case done =>
    rintro D X hD ⟨vv, k1, k2, k4, k5⟩ hK
    have c1 : X.cell? ⟨w.heap.size, 0, none⟩ = some vv := by rw [cell_of_heap k1]; rfl
    rw [List.take_length] at k2
    have k2' : (X.putObj D (.deferred none)).ownsRow w.heap.size 73 2 vv σ.p.length (puts σ.p) := own_moved k2 (fun b hb => by
      obtain ⟨cur, hc⟩ := own_cells k2 hb
      exact World.putObj_heap_other (fun e => by rw [e, hK] at hc; cases hc))
    obtain ⟨A, c, rfl, -, -, hr⟩ := Row.of_own k2'
    gi_wp2
    refine marks_ret hK (results_tmp rfl _ _ _) ?_
    have hm : Mild w.heap.size X (X.putObj D (.deferred none)) := Mild.putObj (n := w.heap.size) _ (by omega) hK rfl
    exact ⟨A, c, rfl, hr, hm.below k5 (Nat.le_refl _) k5.size⟩
  case stop =>
    rintro D c i X _ _ h _
    exact h.elim
end Go.Proofs.Ck
