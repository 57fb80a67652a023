/- The ledger: a client's list. -/
import Derived.Test.YtpakfelekphbmaaLd2
import Derived.Test.YtpakfelekphbmaaAll
import Derived.Test.YtpakfelekphbmaaLed1
namespace Go.Proofs.Ck
open Go Go.RowKit

theorem seg_next {f : Nat → Nat} {l : List Nat} {p : Nat} (h : seg f p l 0) {i : Nat} (hi : i < l.length) : f (l.getD i 0 + 16) = l.getD (i + 1) 0 := by
  rw [(seg_get h i hi).1]
  split
  · rfl
  · next h => rw [List.getD_eq_getElem?_getD, List.getElem?_eq_none (by omega)]; rfl
theorem size_txany {w : World} {v : Value} {f : Nat → Nat} (h : TxAny w v f) : Calls Try.prog 197 #[v] w fun e w' => e = .returned (.int .u64 ((f 16 : Nat) : Int)) ∧ Grow w w' := by
  have hl := load_txany h 16 (by omega)
  clear h
  generalize f 16 = y at *
  go_enter Try.func197, Try.ntmps197
  go_wp2_with fail
  refine (show Calls _ _ #[_, .int .u64 16] _ _ from hl).mono ?_
  rintro e w' ⟨rfl, L'⟩
  clear hl
  go_wp2
  go_ret
  exact ⟨rfl, L'⟩

attribute [local go_sem] Oper.semAt_some wide_fn wide_depth wide_in_fn wide_in_depth
set_option maxRecDepth 100000 in
set_option maxHeartbeats 2000000 in
theorem list_iter {w : World} {v : Value} {f : Nat → Nat} (h : TxAny w v f) {c : Nat} (hc : c < 8) {l : List Nat} {n E : Nat} (hn : l.length = n) (hC : Chk f c l) (hE : f 16 = E) (hlen : n ≤ E / 48) (hE2 : E < 18446744073709551616) (hnz : ∀ a ∈ l, a ≠ 0 ∧ a < 4800)
    (B C : Nat) (W0 : World) (hB : W0.heap[B]? = some (.cells #[v] 65 (0, 0))) (hCc : W0.heap[C]? = some (.cells #[.int .i64 (c : Int)] 3 (0, 0))) (hBl : B < w.heap.size) (hCl : C < w.heap.size) (hs : ∀ b, b < w.heap.size → W0.heap[b]? = w.heap[b]?) :
    Iter Try.prog 196 #[.pointer (some ⟨B, 0, none⟩), .pointer (some ⟨C, 0, none⟩)] n (fun i => #[.int .u64 ((l.getD i 0 : Nat) : Int)]) (fun b => b < w.heap.size) W0 := by
  intro ly J Jx W hWz hT hJ hY hJx h0
  obtain ⟨p, rfl⟩ := h.ptr
  have hat : ∀ i, i < n → l.getD i 0 ≠ 0 ∧ l.getD i 0 < 4800 ∧ f (l.getD i 0 + 16) = l.getD (i + 1) 0 := fun i hi => by
    have hm : l.getD i 0 ∈ l := by rw [List.getD_eq_getElem?_getD, List.getElem?_eq_getElem (by omega)]; exact List.getElem_mem _
    exact ⟨(hnz _ hm).1, (hnz _ hm).2, seg_next hC.2 (by omega)⟩
  have hend : l.getD n 0 = 0 := by rw [List.getD_eq_getElem?_getD, List.getElem?_eq_none (by omega)]; rfl
  have hhd : getF f (c : Int) 8 = l.getD 0 0 := by
    refine get_of hc rfl ?_
    show f (hdO c) = _
    rw [hC.1]
    cases l <;> rfl
  have any : ∀ {wr : World}, (∀ x, x < w.heap.size → wr.heap[x]? = W0.heap[x]?) → TxAny wr (.pointer p) f := fun {wr} hTr => h.keep (W := wr) (fun b hb => (hTr b hb).trans (hs b hb))
  have ltW : ∀ {wr : World}, (∀ x, x < w.heap.size → wr.heap[x]? = W0.heap[x]?) → ∀ x, x < w.heap.size → x < wr.heap.size := fun {wr} hTr x hx => by
    have h1 := hTr x hx
    rw [hs x hx] at h1
    exact (Array.getElem?_eq_some_iff.1 (h1.trans (Array.getElem?_eq_getElem hx))).1
  have H1 := headIs (any hT) hhd
  have H2 := fun w' (hg : Grow W w') => size_txany (any (wr := w') (fun x hx => (hg.block x (ltW hT x hx)).trans (hT x hx)))
  rw [hE] at H2
  have hBr : W.heap[B]? = some (.cells #[.pointer p] 65 (0, 0)) := (hT B hBl).trans hB
  have hCr : W.heap[C]? = some (.cells #[.int .i64 (c : Int)] 3 (0, 0)) := (hT C hCl).trans hCc
  have b0 : W.cell? ⟨B, 0, none⟩ = some (.pointer p) := by rw [cell_of_heap hBr]; rfl
  have c0 : W.cell? ⟨C, 0, none⟩ = some (.int .i64 (c : Int)) := by rw [cell_of_heap hCr]; rfl
  obtain ⟨M, hM⟩ : ∃ M, E / 48 = M := ⟨_, rfl⟩
  have eM : (E : Int) / 48 = (M : Int) := by omega
  have eM2 : (E : Int).tdiv 48 = (M : Int) := by rw [Int.tdiv_eq_ediv_of_nonneg (by omega)]; exact eM
  have eM3 : IntKind.u64.wrap (M : Int) = (M : Int) := by rw [IntKind.wrap_u64]; omega
  have eM4 : IntKind.u64.wrap ((E : Int) / 48) = (M : Int) := by rw [eM]; exact eM3
  rw [hM] at hlen
  have hM64 : M < 18446744073709551616 := by omega
  clear hC hnz hhd hE hM hE2
  refine callsIn_of_wp Try.func196 rfl trivial ?_ rfl
  simp only [Try.ntmps196, List.size_toArray, List.length_cons, List.length_nil, Nat.reduceAdd, Nat.reduceSub, Array.replicate_succ, Array.replicate_zero, List.push_toArray, List.append_toArray, List.nil_append, List.cons_append]
  gi_wp2_with fail
  refine (ranged H1).mono ?_
  rintro e w1 ⟨rfl, hg1⟩
  have j1 := hJ _ _ _ h0 hg1
  have T1 : ∀ x, x < w.heap.size → w1.heap[x]? = W0.heap[x]? := fun x hx => (hg1.block x (ltW hT x hx)).trans (hT x hx)
  have b1 : w1.cell? ⟨B, 0, none⟩ = some (.pointer p) := by rw [cell_of_heap (hg1.heap hBr)]; rfl
  clear H1 c0 b0
  gi_wp2_with fail
  refine (ranged (H2 _ hg1)).mono ?_
  rintro e w2 ⟨rfl, hg2⟩
  have j2 := hJ _ _ _ j1 hg2
  have T2 : ∀ x, x < w.heap.size → w2.heap[x]? = W0.heap[x]? := fun x hx => (hg2.block x (ltW T1 x hx)).trans (T1 x hx)
  clear H2 b1 hg1 hg2 j1 T1 hBr hCr h0 hT hWz
  gi_wp2
  gi_loopw [4, 5] (fun t4 t5 wr => ∃ k : Nat, k ≤ n ∧ t4 = .int .u64 ((l.getD k 0 : Nat) : Int) ∧ t5 = .int .u64 ((M - k : Nat) : Int) ∧ J k wr ∧ (∀ x, x < w.heap.size → wr.heap[x]? = W0.heap[x]?))
    (fun _ t5 _ => (intOf t5).toNat)
  case atStart => exact ⟨0, Nat.zero_le _, rfl, rfl, j2, T2⟩
  case round =>
    clear j2 T2
    obtain ⟨k, hk, rfl, rfl, hJs, hTr⟩ := hrel
    by_cases hlt : k < n
    · obtain ⟨a1, a2, a3⟩ := hat k hlt
      have hYk := hY k wr hlt hJs
      obtain ⟨m, hm⟩ : ∃ m, M - k = m := ⟨_, rfl⟩
      obtain ⟨m1, hm1⟩ : ∃ m, M - (k + 1) = m := ⟨_, rfl⟩
      have em : IntKind.u64.wrap ((m : Int) - 1) = (m1 : Int) := by rw [IntKind.wrap_u64]; omega
      rw [hm]
      have g0 : decide ((0 : Int) < (m : Int)) = true := decide_eq_true (by omega)
      have hld := fun w' (ht : TxAny w' (.pointer p) f) => load_txany ht (l.getD k 0 + 16) (by omega)
      rw [a3] at hld
      obtain ⟨a, ha⟩ : ∃ a, l.getD k 0 = a := ⟨_, rfl⟩
      obtain ⟨a', ha'⟩ : ∃ a, l.getD (k + 1) 0 = a := ⟨_, rfl⟩
      rw [ha, ha'] at hld
      rw [ha] at hYk a1 a2 ⊢
      have HA := Lib.hid ha'
      have HM1 := Lib.hid hm1
      obtain ⟨o, ho⟩ : ∃ o, a + 16 = o := ⟨_, rfl⟩
      rw [ho] at hld
      have p16 : IntKind.u64.wrap ((a : Int) + 16) = (o : Int) := by rw [IntKind.wrap_u64]; omega
      have z0 : ((a : Int) != 0) = true := by rw [bne_iff_ne]; omega
      clear hY ha ha' a3 ho hat hm1 a1 a2
      obtain ⟨fn, tmps, assign, body, hy, hR⟩ := hYk
      gi_wp2
      refine hR.mono ?_
      rintro e W3 ⟨hz3, hT3, (⟨rfl, hJ3⟩ | ⟨rfl, hJx3⟩)⟩
      · have T3 : ∀ x, x < w.heap.size → W3.heap[x]? = W0.heap[x]? := fun x hx => (hT3 x hx).trans (hTr x hx)
        have b3 : W3.cell? ⟨B, 0, none⟩ = some (.pointer p) := by rw [cell_of_heap ((T3 B hBl).trans hB)]; rfl
        have hld3 := hld W3 (any T3)
        clear hld hR
        gi_wp2_with fail
        refine (ranged hld3).mono ?_
        rintro e w4 ⟨rfl, hg4⟩
        clear hld3 b3
        have j4 := hJ _ _ _ hJ3 hg4
        have T4 : ∀ x, x < w.heap.size → w4.heap[x]? = W0.heap[x]? := fun x hx => (hg4.block x (ltW T3 x hx)).trans (T3 x hx)
        gi_wp2
        go_roundw
        case rel => exact ⟨k + 1, by omega, by rw [HA.out], by rw [HM1.out], j4, T4⟩
        case measure => have := HM1.out; simp [intOf]; omega
      · clear hld hR
        gi_wp2
        refine bodyPost_ret (results_none rfl _ _ _) rfl ?_
        exact ⟨⟨_, rfl⟩, .inr ⟨k, hlt, hJx3⟩⟩
    · obtain rfl : k = n := by omega
      rw [hend]
      by_cases hm0 : M - k = 0
      · rw [hm0]
        have g0 : decide ((0 : Int) < ((0 : Nat) : Int)) = false := rfl
        gi_wp2
        go_end0
        exact ⟨⟨_, rfl⟩, .inl hJs⟩
      · have g0 : decide ((0 : Int) < ((M - k : Nat) : Int)) = true := decide_eq_true (by omega)
        generalize M - k = m at *
        have z0 : (((0 : Nat) : Int) != 0) = false := rfl
        gi_wp2
        go_end0
        exact ⟨⟨_, rfl⟩, .inl hJs⟩
end Go.Proofs.Ck
