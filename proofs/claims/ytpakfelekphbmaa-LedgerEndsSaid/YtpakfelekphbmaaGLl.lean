/- Parts of the proofs of this seat's laws. -/
import Derived.Test.YtpakfelekphbmaaGLed
import Derived.Test.YtpakfelekphbmaaLawRow
import Derived.Test.YtpakfelekphbmaaClientGoes
import Derived.Test.YtpakfelekphbmaaAll
import Derived.Test.YtpakfelekphbmaaLed1
import Derived.Test.YtpakfelekphbmaaRef8
import Derived.Test.YtpakfelekphbmaaGDirW
import Derived.Test.YtpakfelekphbmaaLaid
import Derived.Test.YtpakfelekphbmaaGTx
import Derived.Test.YtpakfelekphbmaaGSeg
import Derived.Test.YtpakfelekphbmaaWalk
import Derived.Test.YtpakfelekphbmaaGClient
import Derived.Laws.Tables
import Derived.Laws.Rows
import Derived.Laws.ResultCell

namespace Go.Proofs.Ck
open Go Go.RowKit

theorem getF_hd {f : Nat → Nat} {c x : Nat} (hc : c < 8) (h : f (hdO c) = x) : getF f (c : Int) 8 = x := get_of hc rfl h

section
variable {base : Nat} {M0 : Nat → Prop} {w0 w w' : World} {v : Value} {f : Nat → Nat} {bx : List Bx} {K : World → (Nat → Prop) → Prop}
set_option maxRecDepth 100000 in
theorem Law.link (L0 : Law base M0 w0 w v f bx K) {c off : Nat} (hc : c < 8) (ho : off % 8 = 0) (ho2 : off + 32 ≤ 4800) (hh : f (hdO c) = 0 ∨ f (hdO c) % 8 = 0 ∧ f (hdO c) + 32 ≤ 4800) :
    Calls Try.prog 115 #[v, .int .i64 (c : Int), .int .u64 (off : Int)] w fun e w' => e = .returned (.tuple #[]) ∧ Law base M0 w0 w' v (linkF f c off) bx K := by
  obtain ⟨h, hhd⟩ : ∃ h, f (hdO c) = h := ⟨_, rfl⟩
  have hl : linkF f c off = upd (if h = 0 then upd (upd f (off + 16) h) (off + 24) 0 else upd (upd (upd f (off + 16) h) (off + 24) 0) (h + 24) off) (hdO c) off := by unfold linkF; rw [hhd]
  rw [hl]
  rw [hhd] at hh
  have hg := getF_hd hc hhd
  obtain ⟨o1, h1⟩ : ∃ o, off + 16 = o := ⟨_, rfl⟩
  obtain ⟨o2, h2⟩ : ∃ o, off + 24 = o := ⟨_, rfl⟩
  obtain ⟨hd, hhdO⟩ : ∃ o, hdO c = o := ⟨_, rfl⟩
  have hpt : 64 + 416 * c + 8 = hd := hhdO
  rw [h1, h2, hhdO]
  have i1 : inSeg o1 := ⟨by omega, by omega⟩
  have i2 : inSeg o2 := ⟨by omega, by omega⟩
  have p1 : IntKind.u64.wrap ((off : Int) + 16) = (o1 : Int) := by rw [IntKind.wrap_u64]; omega
  have p2 : IntKind.u64.wrap ((off : Int) + 24) = (o2 : Int) := by rw [IntKind.wrap_u64]; omega
  have hoff : off < 18446744073709551616 := by omega
  clear hl hhd hhdO
  by_cases h0 : h = 0
  · subst h0
    rw [if_pos rfl]
    have H0 := L0.read (headIs L0.any hg)
    clear hh
    go_enter Try.func115, Try.ntmps115
    go_wp2_with fail
    refine H0.mono ?_
    rintro e w1 ⟨rfl, L1⟩
    clear H0 L0
    go_wp2_with fail
    refine (L1.store o1 0 i1 (by omega)).mono ?_
    rintro e w2 ⟨rfl, L2⟩
    clear L1
    go_wp2_with fail
    refine (L2.store o2 0 i2 (by omega)).mono ?_
    rintro e w3 ⟨rfl, L3⟩
    clear L2
    go_wp2_with fail
    refine (L3.pointIs off hc hoff hpt).mono ?_
    rintro e w4 ⟨rfl, L4⟩
    clear L3
    go_wp2
    go_end0
    exact ⟨rfl, L4⟩
  · rw [if_neg h0]
    obtain ⟨h8, h4⟩ : h % 8 = 0 ∧ h + 32 ≤ 4800 := by omega
    obtain ⟨o3, h3⟩ : ∃ o, h + 24 = o := ⟨_, rfl⟩
    rw [h3]
    have i3 : inSeg o3 := ⟨by omega, by omega⟩
    have p3 : IntKind.u64.wrap ((h : Int) + 24) = (o3 : Int) := by rw [IntKind.wrap_u64]; omega
    have t0 : ((h : Int) != 0) = true := by rw [bne_iff_ne]; omega
    have hhl : h < 18446744073709551616 := by omega
    have H0 := L0.read (headIs L0.any hg)
    clear hh hg h1 h2 h3 h4 h8
    go_enter Try.func115, Try.ntmps115
    go_wp2_with fail
    refine H0.mono ?_
    rintro e w1 ⟨rfl, L1⟩
    clear H0 L0
    go_wp2_with fail
    refine (L1.store o1 h i1 hhl).mono ?_
    rintro e w2 ⟨rfl, L2⟩
    clear L1
    go_wp2_with fail
    refine (L2.store o2 0 i2 (by omega)).mono ?_
    rintro e w3 ⟨rfl, L3⟩
    clear L2
    go_wp2_with fail
    refine (L3.store o3 off i3 hoff).mono ?_
    rintro e w4 ⟨rfl, L4⟩
    clear L3
    go_wp2_with fail
    refine (L4.pointIs off hc hoff hpt).mono ?_
    rintro e w5 ⟨rfl, L5⟩
    clear L4
    go_wp2
    go_end0
    exact ⟨rfl, L5⟩

set_option maxRecDepth 100000 in
theorem Law.unlink (L0 : Law base M0 w0 w v f bx K) {c off : Nat} (hc : c < 8) (ho : off % 8 = 0) (ho2 : off + 32 ≤ 4800) (hn : f (off + 16) = 0 ∨ f (off + 16) % 8 = 0 ∧ f (off + 16) + 32 ≤ 4800) (hp : f (off + 24) = 0 ∨ f (off + 24) % 8 = 0 ∧ f (off + 24) + 32 ≤ 4800) :
    Calls Try.prog 116 #[v, .int .i64 (c : Int), .int .u64 (off : Int)] w fun e w' => e = .returned (.tuple #[]) ∧ Law base M0 w0 w' v (unlinkF f c off) bx K := by
  obtain ⟨n, hnd⟩ : ∃ h, f (off + 16) = h := ⟨_, rfl⟩
  obtain ⟨q, hqd⟩ : ∃ h, f (off + 24) = h := ⟨_, rfl⟩
  have hl : unlinkF f c off = if q = 0 then upd (if n = 0 then f else upd f (n + 24) q) (hdO c) n else upd (if n = 0 then f else upd f (n + 24) q) (q + 16) n := by unfold unlinkF; simp only [hnd, hqd]
  rw [hl]
  rw [hnd] at hn
  rw [hqd] at hp
  obtain ⟨o1, h1⟩ : ∃ o, off + 16 = o := ⟨_, rfl⟩
  obtain ⟨o2, h2⟩ : ∃ o, off + 24 = o := ⟨_, rfl⟩
  obtain ⟨hd, hhdO⟩ : ∃ o, hdO c = o := ⟨_, rfl⟩
  have hpt : 64 + 416 * c + 8 = hd := hhdO
  rw [h1] at hnd
  rw [h2] at hqd
  rw [hhdO]
  have p1 : IntKind.u64.wrap ((off : Int) + 16) = (o1 : Int) := by rw [IntKind.wrap_u64]; omega
  have p2 : IntKind.u64.wrap ((off : Int) + 24) = (o2 : Int) := by rw [IntKind.wrap_u64]; omega
  have ho1 : o1 < 18446744073709551616 := by omega
  have ho2' : o2 < 18446744073709551616 := by omega
  have hn64 : n < 18446744073709551616 := by omega
  have hq64 : q < 18446744073709551616 := by omega
  obtain ⟨n24, hn24⟩ : ∃ o, n + 24 = o := ⟨_, rfl⟩
  obtain ⟨q16, hq16⟩ : ∃ o, q + 16 = o := ⟨_, rfl⟩
  rw [hn24, hq16]
  have p3 : IntKind.u64.wrap ((n : Int) + 24) = (n24 : Int) := by rw [IntKind.wrap_u64]; omega
  have p4 : IntKind.u64.wrap ((q : Int) + 16) = (q16 : Int) := by rw [IntKind.wrap_u64]; omega
  have i3 : n ≠ 0 → inSeg n24 := fun h => ⟨by omega, by omega⟩
  have i4 : q ≠ 0 → inSeg q16 := fun h => ⟨by omega, by omega⟩
  have H0 := L0.load o1 ho1
  have H1 := fun w1 (L1 : Law base M0 w0 w1 v f bx K) => L1.load o2 ho2'
  rw [hnd] at H0
  rw [hqd] at H1
  clear hl hnd hqd hhdO h1 h2 hn hp hn24 hq16 ho2 ho
  by_cases hn0 : n = 0
  · subst hn0
    rw [if_pos rfl]
    by_cases hq0 : q = 0
    · subst hq0
      rw [if_pos rfl]
      clear i3 i4
      go_enter Try.func116, Try.ntmps116
      go_wp2_with fail
      refine H0.mono ?_
      rintro e w1 ⟨rfl, L1⟩
      clear H0 L0
      go_wp2_with fail
      refine (H1 _ L1).mono ?_
      rintro e w2 ⟨rfl, L2⟩
      clear H1 L1
      go_wp2_with fail
      refine (L2.pointIs 0 hc hn64 hpt).mono ?_
      rintro e w3 ⟨rfl, L3⟩
      clear L2
      go_wp2
      go_end0
      exact ⟨rfl, L3⟩
    · rw [if_neg hq0]
      have i5 := i4 hq0
      have t0 : ((q : Int) != 0) = true := by rw [bne_iff_ne]; omega
      clear i3 i4
      go_enter Try.func116, Try.ntmps116
      go_wp2_with fail
      refine H0.mono ?_
      rintro e w1 ⟨rfl, L1⟩
      clear H0 L0
      go_wp2_with fail
      refine (H1 _ L1).mono ?_
      rintro e w2 ⟨rfl, L2⟩
      clear H1 L1
      go_wp2_with fail
      refine (L2.store q16 0 i5 hn64).mono ?_
      rintro e w3 ⟨rfl, L3⟩
      clear L2
      go_wp2
      go_end0
      exact ⟨rfl, L3⟩
  · rw [if_neg hn0]
    have i6 := i3 hn0
    have t1 : ((n : Int) != 0) = true := by rw [bne_iff_ne]; omega
    by_cases hq0 : q = 0
    · subst hq0
      rw [if_pos rfl]
      clear i3 i4
      go_enter Try.func116, Try.ntmps116
      go_wp2_with fail
      refine H0.mono ?_
      rintro e w1 ⟨rfl, L1⟩
      clear H0 L0
      go_wp2_with fail
      refine (H1 _ L1).mono ?_
      rintro e w2 ⟨rfl, L2⟩
      clear H1 L1
      go_wp2_with fail
      refine (L2.store n24 0 i6 hq64).mono ?_
      rintro e w3 ⟨rfl, L3⟩
      clear L2
      go_wp2_with fail
      refine (L3.pointIs n hc hn64 hpt).mono ?_
      rintro e w4 ⟨rfl, L4⟩
      clear L3
      go_wp2
      go_end0
      exact ⟨rfl, L4⟩
    · rw [if_neg hq0]
      have i5 := i4 hq0
      have t0 : ((q : Int) != 0) = true := by rw [bne_iff_ne]; omega
      clear i3 i4
      go_enter Try.func116, Try.ntmps116
      go_wp2_with fail
      refine H0.mono ?_
      rintro e w1 ⟨rfl, L1⟩
      clear H0 L0
      go_wp2_with fail
      refine (H1 _ L1).mono ?_
      rintro e w2 ⟨rfl, L2⟩
      clear H1 L1
      go_wp2_with fail
      refine (L2.store n24 q i6 hq64).mono ?_
      rintro e w3 ⟨rfl, L3⟩
      clear L2
      go_wp2_with fail
      refine (L3.store q16 n i5 hn64).mono ?_
      rintro e w4 ⟨rfl, L4⟩
      clear L3
      go_wp2
      go_end0
      exact ⟨rfl, L4⟩
end
end Go.Proofs.Ck

namespace Go.Proofs.Ck
open Go Go.RowKit

theorem seg_next {f : Nat → Nat} {l : List Nat} {p : Nat} (h : seg f p l 0) {i : Nat} (hi : i < l.length) : f (l.getD i 0 + 16) = l.getD (i + 1) 0 := by
  rw [(seg_get h i hi).1]
  split
  · rfl
  · next h => rw [List.getD_eq_getElem?_getD, List.getElem?_eq_none (by omega)]; rfl
theorem size_txany {w : World} {v : Value} {f : Nat → Nat} (h : TxAny w v f) : Calls Try.prog 197 #[v] w fun e w' => e = .returned (.int .u64 ((f 16 : Nat) : Int)) ∧ Grow w w' := by
  have hl := load_txany h 16 (by omega)
  clear h
  generalize f 16 = y at *
  go_enter Try.func197, Try.ntmps197
  go_wp2_with fail
  refine (show Calls _ _ #[_, .int .u64 16] _ _ from hl).mono ?_
  rintro e w' ⟨rfl, L'⟩
  clear hl
  go_wp2
  go_ret
  exact ⟨rfl, L'⟩

attribute [local go_sem] Oper.semAt_some wide_fn wide_depth wide_in_fn wide_in_depth
set_option maxRecDepth 100000 in
set_option maxHeartbeats 2000000 in
theorem list_iter {w : World} {v : Value} {f : Nat → Nat} (h : TxAny w v f) {c : Nat} (hc : c < 8) {l : List Nat} {n E : Nat} (hn : l.length = n) (hC : Chk f c l) (hE : f 16 = E) (hlen : n ≤ E / 48) (hE2 : E < 18446744073709551616) (hnz : ∀ a ∈ l, a ≠ 0 ∧ a < 4800)
    (B C : Nat) (W0 : World) (hB : W0.heap[B]? = some (.cells #[v] 65 (0, 0))) (hCc : W0.heap[C]? = some (.cells #[.int .i64 (c : Int)] 3 (0, 0))) (hBl : B < w.heap.size) (hCl : C < w.heap.size) (hs : ∀ b, b < w.heap.size → W0.heap[b]? = w.heap[b]?) :
    Iter Try.prog 196 #[.pointer (some ⟨B, 0, none⟩), .pointer (some ⟨C, 0, none⟩)] n (fun i => #[.int .u64 ((l.getD i 0 : Nat) : Int)]) (fun b => b < w.heap.size) W0 := by
  intro ly J Jx W hWz hT hJ hY hJx h0
  obtain ⟨p, rfl⟩ := h.ptr
  have hat : ∀ i, i < n → l.getD i 0 ≠ 0 ∧ l.getD i 0 < 4800 ∧ f (l.getD i 0 + 16) = l.getD (i + 1) 0 := fun i hi => by
    have hm : l.getD i 0 ∈ l := by rw [List.getD_eq_getElem?_getD, List.getElem?_eq_getElem (by omega)]; exact List.getElem_mem _
    exact ⟨(hnz _ hm).1, (hnz _ hm).2, seg_next hC.2 (by omega)⟩
  have hend : l.getD n 0 = 0 := by rw [List.getD_eq_getElem?_getD, List.getElem?_eq_none (by omega)]; rfl
  have hhd : getF f (c : Int) 8 = l.getD 0 0 := by
    refine get_of hc rfl ?_
    show f (hdO c) = _
    rw [hC.1]
    cases l <;> rfl
  have any : ∀ {wr : World}, (∀ x, x < w.heap.size → wr.heap[x]? = W0.heap[x]?) → TxAny wr (.pointer p) f := fun {wr} hTr => h.keep (W := wr) (fun b hb => (hTr b hb).trans (hs b hb))
  have ltW : ∀ {wr : World}, (∀ x, x < w.heap.size → wr.heap[x]? = W0.heap[x]?) → ∀ x, x < w.heap.size → x < wr.heap.size := fun {wr} hTr x hx => by
    have h1 := hTr x hx
    rw [hs x hx] at h1
    exact (Array.getElem?_eq_some_iff.1 (h1.trans (Array.getElem?_eq_getElem hx))).1
  have H1 := headIs (any hT) hhd
  have H2 := fun w' (hg : Grow W w') => size_txany (any (wr := w') (fun x hx => (hg.block x (ltW hT x hx)).trans (hT x hx)))
  rw [hE] at H2
  have hBr : W.heap[B]? = some (.cells #[.pointer p] 65 (0, 0)) := (hT B hBl).trans hB
  have hCr : W.heap[C]? = some (.cells #[.int .i64 (c : Int)] 3 (0, 0)) := (hT C hCl).trans hCc
  have b0 : W.cell? ⟨B, 0, none⟩ = some (.pointer p) := by rw [cell_of_heap hBr]; rfl
  have c0 : W.cell? ⟨C, 0, none⟩ = some (.int .i64 (c : Int)) := by rw [cell_of_heap hCr]; rfl
  obtain ⟨M, hM⟩ : ∃ M, E / 48 = M := ⟨_, rfl⟩
  have eM : (E : Int) / 48 = (M : Int) := by omega
  have eM2 : (E : Int).tdiv 48 = (M : Int) := by rw [Int.tdiv_eq_ediv_of_nonneg (by omega)]; exact eM
  have eM3 : IntKind.u64.wrap (M : Int) = (M : Int) := by rw [IntKind.wrap_u64]; omega
  have eM4 : IntKind.u64.wrap ((E : Int) / 48) = (M : Int) := by rw [eM]; exact eM3
  rw [hM] at hlen
  have hM64 : M < 18446744073709551616 := by omega
  clear hC hnz hhd hE hM hE2
  refine callsIn_of_wp Try.func196 rfl trivial ?_ rfl
  simp only [Try.ntmps196, List.size_toArray, List.length_cons, List.length_nil, Nat.reduceAdd, Nat.reduceSub, Array.replicate_succ, Array.replicate_zero, List.push_toArray, List.append_toArray, List.nil_append, List.cons_append]
  gi_wp2_with fail
  refine (ranged H1).mono ?_
  rintro e w1 ⟨rfl, hg1⟩
  have j1 := hJ _ _ _ h0 hg1
  have T1 : ∀ x, x < w.heap.size → w1.heap[x]? = W0.heap[x]? := fun x hx => (hg1.block x (ltW hT x hx)).trans (hT x hx)
  have b1 : w1.cell? ⟨B, 0, none⟩ = some (.pointer p) := by rw [cell_of_heap (hg1.heap hBr)]; rfl
  clear H1 c0 b0
  gi_wp2_with fail
  refine (ranged (H2 _ hg1)).mono ?_
  rintro e w2 ⟨rfl, hg2⟩
  have j2 := hJ _ _ _ j1 hg2
  have T2 : ∀ x, x < w.heap.size → w2.heap[x]? = W0.heap[x]? := fun x hx => (hg2.block x (ltW T1 x hx)).trans (T1 x hx)
  clear H2 b1 hg1 hg2 j1 T1 hBr hCr h0 hT hWz
  gi_wp2
  gi_loopw [4, 5] (fun t4 t5 wr => ∃ k : Nat, k ≤ n ∧ t4 = .int .u64 ((l.getD k 0 : Nat) : Int) ∧ t5 = .int .u64 ((M - k : Nat) : Int) ∧ J k wr ∧ (∀ x, x < w.heap.size → wr.heap[x]? = W0.heap[x]?))
    (fun _ t5 _ => (intOf t5).toNat)
  case atStart => exact ⟨0, Nat.zero_le _, rfl, rfl, j2, T2⟩
  case round =>
    clear j2 T2
    obtain ⟨k, hk, rfl, rfl, hJs, hTr⟩ := hrel
    by_cases hlt : k < n
    · obtain ⟨a1, a2, a3⟩ := hat k hlt
      have hYk := hY k wr hlt hJs
      obtain ⟨m, hm⟩ : ∃ m, M - k = m := ⟨_, rfl⟩
      obtain ⟨m1, hm1⟩ : ∃ m, M - (k + 1) = m := ⟨_, rfl⟩
      have em : IntKind.u64.wrap ((m : Int) - 1) = (m1 : Int) := by rw [IntKind.wrap_u64]; omega
      rw [hm]
      have g0 : decide ((0 : Int) < (m : Int)) = true := decide_eq_true (by omega)
      have hld := fun w' (ht : TxAny w' (.pointer p) f) => load_txany ht (l.getD k 0 + 16) (by omega)
      rw [a3] at hld
      obtain ⟨a, ha⟩ : ∃ a, l.getD k 0 = a := ⟨_, rfl⟩
      obtain ⟨a', ha'⟩ : ∃ a, l.getD (k + 1) 0 = a := ⟨_, rfl⟩
      rw [ha, ha'] at hld
      rw [ha] at hYk a1 a2 ⊢
      have HA := Lib.hid ha'
      have HM1 := Lib.hid hm1
      obtain ⟨o, ho⟩ : ∃ o, a + 16 = o := ⟨_, rfl⟩
      rw [ho] at hld
      have p16 : IntKind.u64.wrap ((a : Int) + 16) = (o : Int) := by rw [IntKind.wrap_u64]; omega
      have z0 : ((a : Int) != 0) = true := by rw [bne_iff_ne]; omega
      clear hY ha ha' a3 ho hat hm1 a1 a2
      obtain ⟨fn, tmps, assign, body, hy, hR⟩ := hYk
      gi_wp2
      refine hR.mono ?_
      rintro e W3 ⟨hz3, hT3, (⟨rfl, hJ3⟩ | ⟨rfl, hJx3⟩)⟩
      · have T3 : ∀ x, x < w.heap.size → W3.heap[x]? = W0.heap[x]? := fun x hx => (hT3 x hx).trans (hTr x hx)
        have b3 : W3.cell? ⟨B, 0, none⟩ = some (.pointer p) := by rw [cell_of_heap ((T3 B hBl).trans hB)]; rfl
        have hld3 := hld W3 (any T3)
        clear hld hR
        gi_wp2_with fail
        refine (ranged hld3).mono ?_
        rintro e w4 ⟨rfl, hg4⟩
        clear hld3 b3
        have j4 := hJ _ _ _ hJ3 hg4
        have T4 : ∀ x, x < w.heap.size → w4.heap[x]? = W0.heap[x]? := fun x hx => (hg4.block x (ltW T3 x hx)).trans (T3 x hx)
        gi_wp2
        go_roundw
        case rel => exact ⟨k + 1, by omega, by rw [HA.out], by rw [HM1.out], j4, T4⟩
        case measure => have := HM1.out; simp [intOf]; omega
      · clear hld hR
        gi_wp2
        refine bodyPost_ret (results_none rfl _ _ _) rfl ?_
        exact ⟨⟨_, rfl⟩, .inr ⟨k, hlt, hJx3⟩⟩
    · obtain rfl : k = n := by omega
      rw [hend]
      by_cases hm0 : M - k = 0
      · rw [hm0]
        have g0 : decide ((0 : Int) < ((0 : Nat) : Int)) = false := rfl
        gi_wp2
        go_end0
        exact ⟨⟨_, rfl⟩, .inl hJs⟩
      · have g0 : decide ((0 : Int) < ((M - k : Nat) : Int)) = true := decide_eq_true (by omega)
        generalize M - k = m at *
        have z0 : (((0 : Nat) : Int) != 0) = false := rfl
        gi_wp2
        go_end0
        exact ⟨⟨_, rfl⟩, .inl hJs⟩
end Go.Proofs.Ck

namespace Go.Proofs.Ck
open Go Go.RowKit

attribute [local go_sem] Oper.semAt_some wide_fn wide_depth wide_in_fn wide_in_depth
set_option maxRecDepth 100000 in
set_option maxHeartbeats 2000000 in
theorem seq_call {w : World} {v : Value} {f : Nat → Nat} (h : TxAny w v f) {c : Nat} (hc : c < 8) {l : List Nat} {n E : Nat} (hn : l.length = n) (hC : Chk f c l) (hE : f 16 = E) (hlen : n ≤ E / 48) (hE2 : E < 18446744073709551616) (hnz : ∀ a ∈ l, a ≠ 0 ∧ a < 4800) (hn2 : n ≤ 1000000)
    (B C : Nat) (hB : w.heap[B]? = some (.cells #[v] 65 (0, 0))) (hCc : w.heap[C]? = some (.cells #[.int .i64 (c : Int)] 3 (0, 0))) :
    Calls Try.prog 195 #[.slice none 0 0, .func (.func 196) #[] #[.pointer (some ⟨B, 0, none⟩), .pointer (some ⟨C, 0, none⟩)]] w fun e w' => ∃ A c', e = .returned (.slice A n c') ∧ Row (fun b => w.heap.size ≤ b) w' A n 1 (u64s l) ∧ Grow w w' := by
  have hga : Grow w (w.alloc (.cells #[.slice none 0 0] 27)) := (Below.refl _ _).alloc (Nat.le_refl _) _
  have hb1 := World.alloc_heap_new w (.cells #[.slice none 0 0] 27)
  obtain ⟨i22, hi3, hz3, hs3, hb3⟩ := info_parts info22
  have hBl := lt_of_heap hB
  have hCl := lt_of_heap hCc
  have hww := hga.size
  have hB3 := hga.heap hB
  have hC3 := hga.heap hCc
  have hl0 : u64s l = u64s (l.take n) := by rw [← hn, List.take_length]
  rw [hl0]
  refine calls_of_range Try.func195 rfl ?_
  simp only [Try.ntmps195, List.size_toArray, List.length_cons, List.length_nil, Nat.reduceAdd, Nat.reduceSub, Array.replicate_succ, Array.replicate_zero, List.push_toArray, List.append_toArray, List.nil_append, List.cons_append]
  gi_wp2
  generalize hwa : w.alloc (.cells #[.slice none 0 0] 27) = wa at *
  refine wp_range (gf := 196) (lb := #[.pointer (some ⟨B, 0, none⟩), .pointer (some ⟨C, 0, none⟩)]) rfl (fun args w => Try.call196 args w)
    (list_iter h hc hn hC hE hlen hE2 hnz B C wa hB3 hC3 hBl hCl (fun b hb => hga.block b hb))
    (by intro b hb; omega) (fun _ => rfl)
    (fun i X => ∃ vv, X.heap[w.heap.size]? = some (.cells #[vv] 27 (0, 0)) ∧ X.ownsRow w.heap.size 22 1 vv i (u64s (l.take i)) ∧ Grow w X)
    (fun _ _ _ => False)
    (fun i A D hs hm => ?_) (fun _ _ _ _ hs _ => hs)
    ⟨.slice none 0 0, hb1, World.ownsRow_nil _ _ _ _, hga⟩ ?a1 ?assign ?body ?done ?stop
  · obtain ⟨vv, k1, k2, k5⟩ := hs
    refine ⟨vv, hm.heap k1, own_moved k2 (fun b hb => ?_), hm.below k5 (by omega) k5.size⟩
    obtain ⟨cur, hc⟩ := own_cells k2 hb
    exact (hm.heap hc).trans hc.symm
  case assign =>
    intro l i X K hK
    gi_wp2
    exact hK
  case body =>
    rintro ly i X hi ⟨vv, k1, k2, k5⟩
    have hil : i < l.length := by omega
    have hnx : u64s (l.take (i + 1)) = u64s (l.take i) ++ [.int .u64 ((l[i] : Nat) : Int)] := by
      have e : l.take (i + 1) = l.take i ++ [l[i]] := by
        rw [List.take_add_one, List.getElem?_eq_getElem hil, Option.toList_some]
      rw [e]
      unfold u64s
      rw [List.map_append]
      rfl
    have HNX := Lib.hid hnx
    clear hnx hb1 hB3 hC3 hga
    have c1 : X.cell? ⟨w.heap.size, 0, none⟩ = some vv := by rw [cell_of_heap k1]; rfl
    have f1 := frozen_of_heap k1 0
    have hbase : w.heap.size ≤ X.heap.size := k5.size
    have q1 := lt_of_heap k1
    gi_wp2_with (gi_at_builtin; refine wpListIn_push X rfl (.tmp 8) (.tmp 10) 27 rfl w.heap.size 22 i22 _ 1 8 Try.underlying27 hi3 hz3 hs3 hb3 rfl (by decide) vv i _ rfl k2 #[.int .u64 ((l[i] : Nat) : Int)] rfl rfl (by simp [Value.oneCell']) rfl (by unfold maxLen; omega) (by omega) hbase ?_)
    intro v' w2 hown ho2
    obtain ⟨A', c', rfl⟩ : ∃ A c, v' = .slice A (i + 1) c := by
      obtain ⟨g, c, _, e, _⟩ := own_form hown (by omega)
      exact ⟨_, c, e⟩
    have hnT : ∀ {k : Nat} {c : Array Value} {t : TypeId} {f : Nat × Nat}, X.heap[k]? = some (.cells c t f) → t ≠ 22 → ¬ vv.ownBlock = some k := fun hk ht e => by
      obtain ⟨cur, hc⟩ := own_cells k2 e
      rw [hk] at hc
      cases hc
      exact ht rfl
    have k1' := ho2.heap k1 (hnT k1 (by decide))
    have k5' : Grow w w2 := Below.trans k5 (ho2.below hbase (own_ge k2))
    have hheld : Held (fun b => b < w.heap.size) X w2 := ⟨ho2.size, fun b hb => ho2.block b (by omega) (fun e => by
        have := own_ge k2 b e; omega), fun k o hk hc => ho2.heap hk (fun e => by
        obtain ⟨cur, hc'⟩ := own_cells k2 e
        rw [hk] at hc'
        cases hc'
        cases hc)⟩
    have c1' : w2.cell? ⟨w.heap.size, 0, none⟩ = some vv := by rw [cell_of_heap k1']; rfl
    have f1' := frozen_of_heap k1' 0
    clear c1 f1 k1 k5 ho2 hnT k2
    gi_wp2
    refine ⟨hheld.setCell (by simp) _, _, heap_setCell_row k1' _, ?_, k5'.setCell (by simp) _⟩
    rw [HNX.out]
    refine own_moved hown (fun b hb => ?_)
    obtain ⟨cur, hc⟩ := own_cells hown hb
    exact Below.heap_setCell _ _ _ _ (fun (e : b = w.heap.size) => by rw [e, k1'] at hc; cases hc)
  case done =>
    rintro D X hD ⟨vv, k1, k2, k5⟩ hK
    have c1 : X.cell? ⟨w.heap.size, 0, none⟩ = some vv := by rw [cell_of_heap k1]; rfl
    have k2' : (X.putObj D (.deferred none)).ownsRow w.heap.size 22 1 vv n (u64s (l.take n)) := own_moved k2 (fun b hb => by
      obtain ⟨cur, hc⟩ := own_cells k2 hb
      exact World.putObj_heap_other (fun e => by rw [e, hK] at hc; cases hc))
    obtain ⟨A, c, rfl, -, -, hr⟩ := Row.of_own k2'
    gi_wp2
    refine marks_ret hK (results_tmp rfl _ _ _) ?_
    have hm : Mild w.heap.size X (X.putObj D (.deferred none)) := Mild.putObj (n := w.heap.size) _ (by omega) hK rfl
    exact ⟨A, c, rfl, hr, hm.below k5 (Nat.le_refl _) k5.size⟩
  case stop =>
    rintro D c i X _ _ h _
    exact h.elim

set_option maxRecDepth 100000 in
theorem list_call {w : World} {v : Value} {f : Nat → Nat} (h : TxAny w v f) {c : Nat} (hc : c < 8) {l : List Nat} {n E : Nat} (hn : l.length = n) (hC : Chk f c l) (hE : f 16 = E) (hlen : n ≤ E / 48) (hE2 : E < 18446744073709551616) (hnz : ∀ a ∈ l, a ≠ 0 ∧ a < 4800) (hn2 : n ≤ 1000000) :
    Calls Try.prog 113 #[v, .int .i64 (c : Int)] w fun e w' => ∃ A c', e = .returned (.slice A n c') ∧ Row (fun b => w.heap.size ≤ b) w' A n 1 (u64s l) ∧ Grow w w' := by
  obtain ⟨p, rfl⟩ := h.ptr
  have hall : Calls Try.prog 171 #[.pointer p, .int .i64 (c : Int)] w fun e w' => ∃ B C, e = .returned (.func (.func 196) #[] #[.pointer (some ⟨B, 0, none⟩), .pointer (some ⟨C, 0, none⟩)]) ∧ w'.heap[B]? = some (.cells #[.pointer p] 65 (0, 0)) ∧ w'.heap[C]? = some (.cells #[.int .i64 (c : Int)] 3 (0, 0)) ∧ Grow w w' := by
    go_enter Try.func171, Try.ntmps171
    go_wp2
    go_ret
    refine ⟨_, _, rfl, (Below.heap_alloc _ _ _ (by simp)).trans (World.alloc_heap_new w _), ?_, ((Below.refl _ w).alloc (Nat.le_refl _) _).alloc (by simp) _⟩
    have := World.alloc_heap_new (w.alloc (.cells #[.pointer p] 65)) (.cells #[.int .i64 (c : Int)] 3)
    rwa [World.size_alloc] at this
  have hcol : ∀ {w1 : World} {B C : Nat}, Grow w w1 → w1.heap[B]? = some (.cells #[.pointer p] 65 (0, 0)) → w1.heap[C]? = some (.cells #[.int .i64 (c : Int)] 3 (0, 0)) → Calls Try.prog 170 #[.func (.func 196) #[] #[.pointer (some ⟨B, 0, none⟩), .pointer (some ⟨C, 0, none⟩)]] w1 fun e w' => ∃ A c', e = .returned (.slice A n c') ∧ Row (fun b => w1.heap.size ≤ b) w' A n 1 (u64s l) ∧ Grow w1 w' := by
    intro w1 B C hg hB hCC
    have hs := seq_call (h.grow hg) hc hn hC hE hlen hE2 hnz hn2 B C hB hCC
    clear h hC hnz
    go_enter Try.func170, Try.ntmps170
    go_wp2_with fail
    refine hs.mono ?_
    rintro e w2 ⟨A, c', rfl, hr, hg2⟩
    clear hs
    go_wp2
    go_ret
    exact ⟨A, c', rfl, hr, hg2⟩
  clear h hC hnz
  go_enter Try.func113, Try.ntmps113
  go_wp2_with fail
  refine hall.mono ?_
  rintro e w1 ⟨B, C, rfl, hB, hCC, hg1⟩
  have h2 := hcol hg1 hB hCC
  clear hall hcol hB hCC
  go_wp2_with fail
  refine h2.mono ?_
  rintro e w2 ⟨A, c', rfl, hr, hg2⟩
  clear h2
  go_wp2
  go_ret
  exact ⟨A, c', rfl, hr.mono fun b _ hb => Nat.le_trans hg1.size hb, hg1.trans hg2⟩
end Go.Proofs.Ck

namespace Go.Proofs.Ck
open Go Go.RowKit

theorem chk_no_head {f : Nat → Nat} {c : Int} {l : List Nat} (h : getF f c 8 ≠ l.getD 0 0) : chkB f c l = false := by
  unfold chkB; rw [decide_eq_false h, Bool.false_and]
theorem chk_no_word {f : Nat → Nat} {c : Int} {l : List Nat} {i : Nat} (hi : i < l.length) (h : wordsB f l i = false) : chkB f c l = false := by
  unfold chkB
  rw [Bool.and_eq_false_iff]
  refine .inr ?_
  rw [List.all_eq_false]
  exact ⟨i, List.mem_range.2 hi, by rw [h]; simp⟩
theorem chk_yes {f : Nat → Nat} {c : Int} {l : List Nat} (h : getF f c 8 = l.getD 0 0) (ha : ∀ i, i < l.length → wordsB f l i = true) : chkB f c l = true := by
  unfold chkB
  rw [decide_eq_true h, Bool.true_and, List.all_eq_true]
  exact fun i hi => ha i (List.mem_range.1 hi)
/-- What stands before a place. -/
def befZ (l : List Nat) (i : Nat) : Nat := if i = 0 then 0 else l.getD (i - 1) 0
theorem atZ_bef (l : List Nat) (k : Nat) : atZ l ((k : Int) - 1) = befZ l k := by
  unfold atZ befZ
  by_cases h : k = 0
  · subst h; rfl
  · rw [if_pos (by omega), if_neg h]
    congr 1
    omega
theorem atZ_aft (l : List Nat) (k : Nat) : atZ l ((k : Int) + 1) = l.getD (k + 1) 0 := by
  unfold atZ
  rw [if_pos (by omega)]
  rfl
theorem words_yes {f : Nat → Nat} {l : List Nat} {i : Nat} (h1 : f ((l.getD i 0 + 16) % 18446744073709551616) = l.getD (i + 1) 0) (h2 : f ((l.getD i 0 + 24) % 18446744073709551616) = befZ l i) : wordsB f l i = true := by
  unfold wordsB; rw [decide_eq_true h1]; exact decide_eq_true h2
theorem words_no1 {f : Nat → Nat} {l : List Nat} {i : Nat} (h1 : f ((l.getD i 0 + 16) % 18446744073709551616) ≠ l.getD (i + 1) 0) : wordsB f l i = false := by
  unfold wordsB; rw [decide_eq_false h1]; rfl
theorem words_no2 {f : Nat → Nat} {l : List Nat} {i : Nat} (h2 : f ((l.getD i 0 + 24) % 18446744073709551616) ≠ befZ l i) : wordsB f l i = false := by
  unfold wordsB; rw [Bool.and_eq_false_iff]; exact .inr (decide_eq_false h2)

set_option maxRecDepth 100000 in
set_option maxHeartbeats 4000000 in
theorem check_call {S : Nat → Prop} {w : World} {v : Value} {f : Nat → Nat} {A : Option Addr} {n cA : Nat} {l : List Nat} (h : TxAny w v f) (c : Int) (hn : l.length = n) (hr : Row S w A n 1 (u64s l)) (hx : ∀ a ∈ l, a < 18446744073709551616) (hm : n ≤ 9223372036854775807) :
    Calls Try.prog 109 #[v, .int .i64 c, .slice A n cA] w fun e w' => e = .returned (.bool (chkB f c l)) ∧ Grow w w' := by
  have hga : Grow w (w.alloc (.cells #[.slice A n cA] 27)) := (Below.refl _ _).alloc (Nat.le_refl _) _
  have hB := World.alloc_heap_new w (.cells #[.slice A n cA] 27)
  have hrd := headIs (h.grow hga) (c := c) rfl
  have hcell : ∀ {w' : World}, Grow w w' → ∀ j, j < n → ∃ a off, A = some ⟨a, off, none⟩ ∧ w'.cell? ⟨a, off + j, none⟩ = some (.int .u64 ((l.getD j 0 : Nat) : Int)) := fun {w'} hg j hj => by
    obtain ⟨b, o, e, -, hc⟩ := (hr.grow hg).pos (by omega) (by omega)
    exact ⟨b, o, e, hc j _ (u64s_get (by omega))⟩
  have hat := fun w' (hg : Grow (w.alloc (.cells #[.slice A n cA] 27)) w') => atZ_call (hg.heap hB) hn (hcell (hga.trans hg))
  have hld := fun w' (hg : Grow (w.alloc (.cells #[.slice A n cA] 27)) w') => load_txany (h.grow (hga.trans hg))
  obtain ⟨H, hH⟩ : ∃ x, getF f c 8 = x := ⟨_, rfl⟩
  have a0 : (w.alloc (.cells #[.slice A n cA] 27)).cell? ⟨w.heap.size, 0, none⟩ = some (.slice A n cA) := by rw [cell_of_heap hB]; rfl
  have ez : atZ l 0 = l.getD 0 0 := rfl
  rw [hH] at hrd
  obtain ⟨Y, hY⟩ : ∃ y, l.getD 0 0 = y := ⟨_, rfl⟩
  have hno : H ≠ Y → chkB f c l = false := fun hh => chk_no_head (by rw [hH, hY]; exact hh)
  have hyes : H = Y → (∀ i, i < n → wordsB f l i = true) → chkB f c l = true := fun hh ha => chk_yes (by rw [hH, hY]; exact hh) (by rw [hn]; exact ha)
  have hnw : ∀ i, i < n → wordsB f l i = false → chkB f c l = false := fun i hi hw => chk_no_word (by rw [hn]; exact hi) hw
  have hxl : ∀ j, j < n → l.getD j 0 < 18446744073709551616 := fun j hj => by
    rw [List.getD_eq_getElem?_getD, List.getElem?_eq_getElem (by omega)]
    exact hx _ (List.getElem_mem _)
  obtain ⟨B, hBd⟩ : ∃ b, chkB f c l = b := ⟨_, rfl⟩
  rw [hBd] at hno hyes hnw
  rw [hBd]
  have HN := Lib.hid (⟨hno, hyes, hnw⟩ : _ ∧ _ ∧ _)
  clear hno hyes hnw hBd hH hx
  go_enter Try.func109, Try.ntmps109
  go_wp2_with fail
  generalize w.alloc (.cells #[.slice A n cA] 27) = wa at *
  refine hrd.mono ?_
  rintro e w1 ⟨rfl, hg1⟩
  clear hrd h
  go_wp2_with fail
  have h0 := hat w1 hg1 0
  rw [ez, hY] at h0
  refine h0.mono ?_
  rintro e w' ⟨rfl, rfl⟩
  clear h0 ez a0 hY hr
  have hB1 := hg1.heap hB
  have b0 : w1.cell? ⟨w.heap.size, 0, none⟩ = some (.slice A n cA) := by rw [cell_of_heap hB1]; rfl
  by_cases hHY : H = Y
  · have t0 : ((H : Int) != Y) = false := by rw [bne_eq_false_iff_eq]; omega
    have HE := Lib.hid hHY
    clear hHY
    go_wp2_with fail
    go_loopw [19] (fun i wr => ∃ k : Nat, k ≤ n ∧ i = .int .i64 (k : Int) ∧ Grow wa wr ∧ Hid (∀ j, j < k → wordsB f l j = true)) (fun i _ => n - (intOf i).toNat)
    case atStart => exact ⟨0, Nat.zero_le _, rfl, hg1, Lib.hid fun j hj => by omega⟩
    case round =>
      clear hB1 b0
      obtain ⟨k, hk, rfl, hg, HJ⟩ := hrel
      by_cases hlt : k < n
      · have g0 : decide ((k : Int) < n) = true := decide_eq_true (by omega)
        obtain ⟨a, o, rfl, hc⟩ := hcell (hga.trans hg) k hlt
        obtain ⟨x, hx⟩ : ∃ x, l.getD k 0 = x := ⟨_, rfl⟩
        have hx64 := hxl k hlt
        have hld1 := fun w' (hg' : Grow wa w') => hld w' hg' ((x + 16) % 18446744073709551616) (Nat.mod_lt _ (by omega))
        have hld2 := fun w' (hg' : Grow wa w') => hld w' hg' ((x + 24) % 18446744073709551616) (Nat.mod_lt _ (by omega))
        have ha1 := fun w' hg' => hat w' hg' ((k : Int) + 1)
        have ha2 := fun w' hg' => hat w' hg' ((k : Int) - 1)
        rw [atZ_aft] at ha1
        rw [atZ_bef] at ha2
        have wy := words_yes (f := f) (l := l) (i := k)
        have w1' := words_no1 (f := f) (l := l) (i := k)
        have w2' := words_no2 (f := f) (l := l) (i := k)
        obtain ⟨o16, ho16⟩ : ∃ o, (x + 16) % 18446744073709551616 = o := ⟨_, rfl⟩
        obtain ⟨o24, ho24⟩ : ∃ o, (x + 24) % 18446744073709551616 = o := ⟨_, rfl⟩
        have p16 : IntKind.u64.wrap ((x : Int) + 16) = (o16 : Int) := by rw [IntKind.wrap_u64]; omega
        have p24 : IntKind.u64.wrap ((x : Int) + 24) = (o24 : Int) := by rw [IntKind.wrap_u64]; omega
        have pk1 : IntKind.i64.wrap ((k : Int) + 1) = (k : Int) + 1 := by rw [IntKind.wrap_i64]; omega
        have pk2 : IntKind.i64.wrap ((k : Int) - 1) = (k : Int) - 1 := by rw [IntKind.wrap_i64]; omega
        rw [hx] at hc wy w1' w2' hx64
        rw [ho16] at hld1 wy w1'
        rw [ho24] at hld2 wy w2'
        obtain ⟨u, hu⟩ : ∃ x, f o16 = x := ⟨_, rfl⟩
        obtain ⟨v2, hv2⟩ : ∃ x, f o24 = x := ⟨_, rfl⟩
        obtain ⟨y1, hy1⟩ : ∃ x, l.getD (k + 1) 0 = x := ⟨_, rfl⟩
        obtain ⟨y2, hy2⟩ : ∃ x, befZ l k = x := ⟨_, rfl⟩
        rw [hu] at hld1 wy w1'
        rw [hv2] at hld2 wy w2'
        rw [hy1] at ha1 wy w1'
        rw [hy2] at ha2 wy w2'
        have HW := Lib.hid (⟨wy, w1', w2'⟩ : _ ∧ _ ∧ _)
        have gi0 : (0 : Int) ≤ k := by omega
        have gi1 : (k : Int) < n := by omega
        have h1 := hld1 wr hg
        clear hx hu hv2 hy1 hy2 ho16 ho24 hcell hat hld hxl wy w1' w2' hld1
        go_wp2_with fail
        refine h1.mono ?_
        rintro e w2 ⟨rfl, hg2⟩
        replace hg2 := hg.trans hg2
        clear h1 hc
        have h1 := ha1 w2 hg2
        clear ha1
        go_wp2_with fail
        refine h1.mono ?_
        rintro e w' ⟨rfl, rfl⟩
        clear h1
        by_cases e1 : u = y1
        · have t1 : ((u : Int) != y1) = false := by rw [bne_eq_false_iff_eq]; omega
          have h1 := hld2 w2 hg2
          clear hld2
          go_wp2_with fail
          refine h1.mono ?_
          rintro e w3 ⟨rfl, hg3⟩
          replace hg3 := hg2.trans hg3
          clear h1
          have h1 := ha2 w3 hg3
          clear ha2
          go_wp2_with fail
          refine h1.mono ?_
          rintro e w' ⟨rfl, rfl⟩
          clear h1
          by_cases e2 : v2 = y2
          · have t2 : ((v2 : Int) != y2) = false := by rw [bne_eq_false_iff_eq]; omega
            have HR := Lib.hid (HW.out.1 e1 e2)
            clear e1 e2 hg hg2
            go_wp2
            go_roundw
            case rel => exact ⟨k + 1, by omega, by go_num, hg3, Lib.hid fun j hj => by
              by_cases hjk : j = k
              · subst hjk; exact HR.out
              · exact HJ.out j (by omega)⟩
            case measure => simp [intOf]; omega
          · have t2 : ((v2 : Int) != y2) = true := by rw [bne_iff_ne]; omega
            have HR := Lib.hid (HN.out.2.2 k hlt (HW.out.2.2 e2))
            clear e1 e2 hg hg2
            go_wp2
            go_ret
            exact ⟨by rw [HR.out]; rfl, hga.trans hg3⟩
        · have t1 : ((u : Int) != y1) = true := by rw [bne_iff_ne]; omega
          have HR := Lib.hid (HN.out.2.2 k hlt (HW.out.2.1 e1))
          clear e1 hld2 ha2 hg
          go_wp2
          go_ret
          exact ⟨by rw [HR.out]; rfl, hga.trans hg2⟩
      · obtain rfl : k = n := by omega
        have g0 : decide ((k : Int) < k) = false := decide_eq_false (by omega)
        have HR := Lib.hid (HN.out.2.1 HE.out HJ.out)
        clear hcell hat hld hxl
        go_wp2
        go_ret
        exact ⟨by rw [HR.out]; rfl, hga.trans hg⟩
  · have t0 : ((H : Int) != Y) = true := by rw [bne_iff_ne]; omega
    have HR := Lib.hid (HN.out.1 hHY)
    clear hHY hcell hat hld hxl
    go_wp2
    go_ret
    exact ⟨by rw [HR.out]; rfl, hga.trans hg1⟩
end Go.Proofs.Ck

namespace Go.Proofs.Ck
open Go Go.RowKit

end Go.Proofs.Ck

namespace Go.Proofs.Ck
open Go Go.RowKit

/-- What holds as long as blocks come and go. -/
structure Led (f : Nat → Nat) (all : List Nat) (L : Nat → List Nat) : Prop where
  lists : Lists f all L
  room : Room all
  size : f 16 = 4800

theorem pw_apart {l : List Nat} (h : l.Pairwise fun a b => a + 48 ≤ b) : ∀ a ∈ l, ∀ b ∈ l, a ≠ b → a + 48 ≤ b ∨ b + 48 ≤ a := by
  induction l with
  | nil => intro a ha; cases ha
  | cons x r ih =>
    rw [List.pairwise_cons] at h
    intro a ha b hb hab
    rcases List.mem_cons.1 ha with ea | ha'
    · rcases List.mem_cons.1 hb with eb | hb'
      · exact absurd (ea.trans eb.symm) hab
      · rw [ea]; exact .inl (h.1 b hb')
    · rcases List.mem_cons.1 hb with eb | hb'
      · rw [eb]; exact .inr (h.1 a ha')
      · exact ih h.2 a ha' b hb' hab
theorem room_of {f : Nat → Nat} {bl : List Blk} (h : Lie f 4800 3776 bl) : Room (bl.map Blk.off) := by
  have h1 := h.all
  have h2 := h.mod (by omega)
  have h3 := h.apart
  refine ⟨fun a ha => ?_, ?_⟩
  · obtain ⟨b, hb, rfl⟩ := List.mem_map.1 ha
    have k1 := h1 b hb
    have k2 := h2 b hb
    omega
  · have : (bl.map Blk.off).Pairwise fun a b => a + 48 ≤ b := by rw [List.pairwise_map]; exact h3
    exact pw_apart this
theorem all_nodup {f : Nat → Nat} {bl : List Blk} (h : Lie f 4800 3776 bl) : (bl.map Blk.off).Nodup := by
  have h3 : (bl.map Blk.off).Pairwise fun a b => a + 48 ≤ b := by rw [List.pairwise_map]; exact h.apart
  exact h3.imp fun hh e => by omega

section
variable {f : Nat → Nat} {all : List Nat} {L : Nat → List Nat}
theorem Led.mem (h : Led f all L) {c : Nat} (hc : c < 8) {a : Nat} (ha : a ∈ L c) : a % 16 = 0 ∧ 3776 ≤ a ∧ a + 48 ≤ 4800 := h.room.at_ a (h.lists.sub c hc a ha)
theorem Led.few (h : Led f all L) {c : Nat} (hc : c < 8) : (L c).length ≤ 100 := by
  have h1 : ((L c).map (· / 16)).Nodup := by
    rw [List.Nodup, List.pairwise_map]
    refine List.Pairwise.imp_of_mem ?_ (h.lists.nodup c hc)
    intro a b ha hb hab e
    have k1 := (h.mem hc ha).1
    have k2 := (h.mem hc hb).1
    omega
  have h2 : (((L c).map (· / 16)).map (· - 236)).Nodup := by
    rw [List.Nodup, List.pairwise_map]
    refine List.Pairwise.imp_of_mem ?_ h1
    intro a b ha hb hab e
    obtain ⟨x, hx, rfl⟩ := List.mem_map.1 ha
    obtain ⟨y, hy, rfl⟩ := List.mem_map.1 hb
    have k1 := h.mem hc hx
    have k2 := h.mem hc hy
    omega
  have := nodup_lt_length 64 _ h2 (fun x hx => by
    obtain ⟨y, hy, rfl⟩ := List.mem_map.1 hx
    obtain ⟨z, hz, rfl⟩ := List.mem_map.1 hy
    have := h.mem hc hz
    omega)
  rw [List.length_map, List.length_map] at this
  omega
theorem Led.head_ok (h : Led f all L) {c : Nat} (hc : c < 8) : f (hdO c) = 0 ∨ f (hdO c) ∈ L c := by
  rw [h.lists.head hc]
  cases L c with
  | nil => exact .inl rfl
  | cons a r => exact .inr (List.mem_cons_self ..)
theorem getD_mem0 (l : List Nat) (i : Nat) : l.getD i 0 = 0 ∨ l.getD i 0 ∈ l := by
  by_cases h : i < l.length
  · rw [List.getD_eq_getElem?_getD, List.getElem?_eq_getElem h]; exact .inr (List.getElem_mem _)
  · rw [List.getD_eq_getElem?_getD, List.getElem?_eq_none (by omega)]; exact .inl rfl
theorem Led.next_ok (h : Led f all L) {c off : Nat} (hc : c < 8) (hin : off ∈ L c) : (f (off + 16) = 0 ∨ f (off + 16) ∈ L c) ∧ (f (off + 24) = 0 ∨ f (off + 24) ∈ L c) := by
  obtain ⟨i, hi, rfl⟩ := List.getElem_of_mem hin
  have e : (L c)[i] = (L c).getD i 0 := by rw [List.getD_eq_getElem?_getD, List.getElem?_eq_getElem hi]; rfl
  obtain ⟨k1, k2⟩ := seg_get (h.lists.chk c hc).2 i hi
  rw [e, k1, k2]
  refine ⟨?_, ?_⟩
  · split
    · exact getD_mem0 _ _
    · exact .inl rfl
  · split
    · exact .inl rfl
    · exact getD_mem0 _ _
theorem Led.link (h : Led f all L) {c off : Nat} (hc : c < 8) (hoff : off ∈ all) (hno : ∀ d, d < 8 → off ∉ L d) : Led (linkF f c off) all (fun d => if d = c then off :: L c else L d) := by
  refine ⟨(h.lists.link h.room hc hoff hno).1, h.room, ?_⟩
  have h1 := (h.room.at_ off hoff).2.1
  unfold linkF hdO
  rw [upd_ne (by omega)]
  split
  · rw [upd_ne (by omega), upd_ne (by omega)]; exact h.size
  · next h0 =>
    rcases h.head_ok hc with h2 | h2
    · exact absurd h2 h0
    · have := (h.mem hc h2).2.1
      unfold hdO at this
      rw [upd_ne (by omega), upd_ne (by omega), upd_ne (by omega)]; exact h.size
theorem Led.unlink (h : Led f all L) {c off : Nat} (hc : c < 8) (hin : off ∈ L c) : Led (unlinkF f c off) all (fun d => if d = c then (L c).filter (· != off) else L d) := by
  refine ⟨(h.lists.unlink h.room hc hin).1, h.room, ?_⟩
  have h1 := (h.mem hc hin).2.1
  obtain ⟨k1, k2⟩ := h.next_ok hc hin
  have hg : (if f (off + 16) = 0 then f else upd f (f (off + 16) + 24) (f (off + 24))) 16 = 4800 := by
    split
    · exact h.size
    · next h0 =>
      rcases k1 with h2 | h2
      · exact absurd h2 h0
      · have := (h.mem hc h2).2.1
        rw [upd_ne (by omega)]; exact h.size
  unfold unlinkF hdO
  split
  · rw [upd_ne (by omega)]; exact hg
  · next h0 =>
    rcases k2 with h2 | h2
    · exact absurd h2 h0
    · have := (h.mem hc h2).2.1
      rw [upd_ne (by omega)]; exact hg
end
/-- What is laid: no lists yet. -/
theorem laid_led (l : List (Nat × Nat × Nat)) : Led (laidS l).load (atsL l) (fun _ => []) ∧ (atsL l) ≠ [] ∧ (atsL l).Nodup ∧ (atsL l).length ≤ 21 := by
  have hlie := lay_lie (l.take 20) ⟨fmtW 600 4800, []⟩ 3776 (fmtW_length _ _) (by omega) (by omega)
  have hne := layA_ne 4800 3776 (l.take 20)
  have hlen := layA_le (l.take 20) 3776
  unfold laidS atsL
  refine ⟨⟨lists_empty fun c hc => ?_, room_of hlie.1, ?_⟩, ?_, all_nodup hlie.1, ?_⟩
  · unfold hdO
    rw [hlie.2 _ (by omega)]
    exact fmt_load 4800 _ (by omega) (.inr (by omega)) (by omega)
  · rw [hlie.2 _ (by omega)]; exact fmt_E
  · intro h; exact hne (List.map_eq_nil_iff.1 h)
  · rw [List.length_map]
    have : (l.take 20).length ≤ 20 := by rw [List.length_take]; omega
    omega

section
variable {base : Nat} {M0 : Nat → Prop} {w0 w w' : World} {v : Value} {f : Nat → Nat} {all : List Nat} {Ls : Nat → List Nat} {bx : List Bx} {K : World → (Nat → Prop) → Prop}
theorem Law.linkL (L : Law base M0 w0 w v f bx K) (h : Led f all Ls) {c off : Nat} (hc : c < 8) (hoff : off ∈ all) :
    Calls Try.prog 115 #[v, .int .i64 (c : Int), .int .u64 (off : Int)] w fun e w' => e = .returned (.tuple #[]) ∧ Law base M0 w0 w' v (linkF f c off) bx K := by
  have h1 := h.room.at_ off hoff
  refine L.link hc (by omega) (by omega) ?_
  rcases h.head_ok hc with h2 | h2
  · exact .inl h2
  · have := h.mem hc h2; exact .inr (by omega)
theorem Law.unlinkL (L : Law base M0 w0 w v f bx K) (h : Led f all Ls) {c off : Nat} (hc : c < 8) (hin : off ∈ Ls c) :
    Calls Try.prog 116 #[v, .int .i64 (c : Int), .int .u64 (off : Int)] w fun e w' => e = .returned (.tuple #[]) ∧ Law base M0 w0 w' v (unlinkF f c off) bx K := by
  have h1 := h.mem hc hin
  obtain ⟨k1, k2⟩ := h.next_ok hc hin
  refine L.unlink hc (by omega) (by omega) ?_ ?_
  · rcases k1 with h2 | h2
    · exact .inl h2
    · have := h.mem hc h2; exact .inr (by omega)
  · rcases k2 with h2 | h2
    · exact .inl h2
    · have := h.mem hc h2; exact .inr (by omega)
theorem Law.listL (L : Law base M0 w0 w v f bx K) (h : Led f all Ls) {c n : Nat} {l : List Nat} (hc : c < 8) (hl : Ls c = l) (hn : l.length = n) :
    Calls Try.prog 113 #[v, .int .i64 (c : Int)] w fun e w' => ∃ A c', e = .returned (.slice A n c') ∧ Law base M0 w0 w' v f bx fun w X => Row (fun b => ¬ X b) w A n 1 (u64s l) ∧ K w X := by
  subst hl
  have hf := h.few hc
  exact L.rowOf (R := fun e A c' => e = .returned (.slice A n c')) (list_call L.any hc hn (h.lists.chk c hc) h.size (by omega) (by omega) (fun a ha => by have := h.mem hc ha; omega) (by omega))
theorem Law.checkL (L : Law base M0 w0 w v f bx K) (c : Int) {A : Option Addr} {n cA : Nat} {l : List Nat} {S : Nat → Prop} (hr : Row S w A n 1 (u64s l)) (hn : l.length = n) (hx : ∀ a ∈ l, a < 18446744073709551616) (hm : n ≤ 9223372036854775807) :
    Calls Try.prog 109 #[v, .int .i64 c, .slice A n cA] w fun e w' => e = .returned (.bool (chkB f c l)) ∧ Law base M0 w0 w' v f bx K :=
  L.read (check_call L.any c hn hr hx hm)
theorem Law.headL (L : Law base M0 w0 w v f bx K) {c x : Nat} (hc : c < 8) (h : f (hdO c) = x) :
    Calls Try.prog 102 #[v, .int .i64 (c : Int)] w fun e w' => e = .returned (.int .u64 (x : Int)) ∧ Law base M0 w0 w' v f bx K :=
  L.read (headIs L.any (getF_hd hc h))
end
end Go.Proofs.Ck

namespace Go.Proofs.Ck
open Go Go.RowKit

theorem own_open {w : World} {base : Nat} {e : TypeId} {k n : Nat} {v : Value} {xs : List Value} (h : w.ownsRow base e k v n xs) :
    ∃ A c, v = .slice A n c ∧ (A = none → c = 0) ∧ Row (fun b => base ≤ b) w A n k xs := by
  obtain ⟨A, c, h1, -, -, h2⟩ := Row.of_own h
  refine ⟨A, c, h1, fun hA => ?_, h2⟩
  rcases h.2 with ⟨rfl, rfl⟩ | ⟨g, cap, cur, rfl, _⟩
  · cases h1; rfl
  · cases h1; cases hA
theorem wo_len_lt {l : List Nat} {a : Nat} : decide ((l.filter (· != a)).length < l.length) = decide (a ∈ l) := by
  by_cases h : a ∈ l
  · rw [decide_eq_true h]
    apply decide_eq_true
    refine Nat.lt_of_le_of_ne (List.length_filter_le _ _) fun e => ?_
    have := (List.length_filter_eq_length_iff.1 e) a h
    simp at this
  · rw [decide_eq_false h]
    apply decide_eq_false
    have : l.filter (· != a) = l := List.filter_eq_self.2 fun x hx => by
      simp only [bne_iff_ne, ne_eq]
      intro e
      exact h (e ▸ hx)
    rw [this]
    omega

set_option maxRecDepth 100000 in
set_option maxHeartbeats 2000000 in
theorem wo_call {S : Nat → Prop} {w : World} {A : Option Addr} {n c : Nat} {l : List Nat} (hr : Row S w A n 1 (u64s l)) (hn : l.length = n) (hm : n ≤ 1000000) (a : Nat) {l' : List Nat} {n' : Nat} (hl' : l.filter (· != a) = l') (hn' : l'.length = n') :
    Calls Try.prog 117 #[.slice A n c, .int .u64 (a : Int)] w fun e w' => ∃ A' c', e = .returned (.slice A' n' c') ∧ (A' = none → c' = 0) ∧ Row (fun b => w.heap.size ≤ b) w' A' n' 1 (u64s l') ∧ Grow w w' := by
  obtain ⟨i22, hi, hz, hs, hby⟩ := info_parts info22
  have HL : Hid ((l.take n).filter (· != a) = l' ∧ l'.length = n') := Lib.hid ⟨by rw [← hn, List.take_length]; exact hl', hn'⟩
  clear hl' hn'
  go_enter Try.func117, Try.ntmps117
  go_wp2_with fail
  go_loopw [5, 6] (fun s i wx => ∃ k : Nat, k ≤ n ∧ i = .int .i64 (k : Int) ∧ Grow w wx ∧ wx.ownsRow w.heap.size 22 1 s ((l.take k).filter (· != a)).length (u64s ((l.take k).filter (· != a)))) (fun _ i _ => n - (intOf i).toNat)
  case atStart => exact ⟨0, Nat.zero_le _, rfl, Below.refl _ _, by rw [List.take_zero]; exact World.ownsRow_nil _ _ _ _⟩
  case round =>
    obtain ⟨k, hk, rfl, hg, hown⟩ := hrel
    by_cases hlt : k < n
    · have g1 : decide ((k : Int) < n) = true := decide_eq_true (by omega)
      obtain ⟨b, o, rfl, -, hc⟩ := (hr.grow hg).pos (by omega) (by omega)
      have hx1 := hc k _ (u64s_get (by omega))
      have hnx : (l.take (k + 1)).filter (· != a) = (l.take k).filter (· != a) ++ (if l.getD k 0 = a then [] else [l.getD k 0]) := by
        rw [List.take_add_one, List.getElem?_eq_getElem (by omega), Option.toList_some, List.filter_append, List.getD_eq_getElem?_getD, List.getElem?_eq_getElem (by omega), Option.getD_some]
        congr 1
        by_cases h : l[k]'(by omega) = a
        · rw [if_pos h]; simp [h]
        · rw [if_neg h]; simp [h]
      have hfl : ((l.take k).filter (· != a)).length ≤ k := Nat.le_trans (List.length_filter_le _ _) (by rw [List.length_take]; omega)
      have gi0 : (0 : Int) ≤ k := by omega
      have gi1 : (k : Int) < n := by omega
      have hbase := hg.size
      clear hc
      generalize (l.take k).filter (· != a) = L at *
      generalize l.getD k 0 = y at *
      by_cases hy : y = a
      · have t0 : ((y : Int) != a) = false := by rw [bne_eq_false_iff_eq]; omega
        rw [if_pos hy, List.append_nil] at hnx
        have HNX := Lib.hid hnx
        clear hy hnx
        go_wp2
        go_roundw
        case rel => exact ⟨k + 1, by omega, by go_num, hg, by rw [HNX.out]; exact hown⟩
        case measure => simp [intOf]; omega
      · have t0 : ((y : Int) != a) = true := by rw [bne_iff_ne]; omega
        rw [if_neg hy] at hnx
        have HNX := Lib.hid hnx
        clear hy hnx
        go_wp2_with (at_builtin; refine wpList_push wr rfl (.tmp 19) (.tmp 24) 27 rfl w.heap.size 22 i22 _ 1 8 Try.underlying27 hi hz hs hby rfl (by decide) u5 L.length _ rfl hown #[.int .u64 (y : Int)] rfl rfl (by simp [Value.oneCell']) rfl (by unfold maxLen; omega) (by omega) hbase ?_)
        intro v' w9 hown9 ho9
        have hg9 : Grow w w9 := grow_own hg hown ho9
        obtain ⟨A9, c9, rfl⟩ : ∃ A c, v' = .slice A (L.length + 1) c := by
          obtain ⟨g, c, _, e, _⟩ := own_form hown9 (by omega)
          exact ⟨_, c, e⟩
        clear hown ho9 hx1
        go_wp2
        go_roundw
        case rel => exact ⟨k + 1, by omega, by go_num, hg9, by rw [HNX.out, List.length_append]; simpa [u64s] using hown9⟩
        case measure => simp [intOf]; omega
    · obtain rfl : k = n := by omega
      have g1 : decide ((k : Int) < k) = false := decide_eq_false (by omega)
      rw [HL.out.1, HL.out.2] at hown
      obtain ⟨Z, cz, rfl, hz0, hrz⟩ := own_open hown
      clear hown HL hr
      go_wp2
      go_ret
      exact ⟨Z, cz, rfl, hz0, hrz, hg⟩

set_option maxRecDepth 100000 in
theorem in_call {S : Nat → Prop} {w : World} {A : Option Addr} {n c : Nat} {l : List Nat} (hr : Row S w A n 1 (u64s l)) (hn : l.length = n) (hm : n ≤ 1000000) (a : Nat) {b : Bool} (hb : decide (a ∈ l) = b) :
    Calls Try.prog 114 #[.slice A n c, .int .u64 (a : Int)] w fun e w' => e = .returned (.bool b) ∧ Grow w w' := by
  obtain ⟨n', hn'⟩ : ∃ m, (l.filter (· != a)).length = m := ⟨_, rfl⟩
  have hw := wo_call (c := c) hr hn hm a rfl hn'
  have t0 : decide ((n' : Int) < (n : Int)) = b := by
    rw [← hb, ← wo_len_lt, hn', hn]
    by_cases h : n' < n
    · rw [decide_eq_true h]; exact decide_eq_true (by omega)
    · rw [decide_eq_false h]; exact decide_eq_false (by omega)
  have t1 : decide (n' < n) = b := by rw [← hb, ← wo_len_lt, hn', hn]
  clear hr hn hb hn'
  go_enter Try.func114, Try.ntmps114
  go_wp2_with fail
  refine hw.mono ?_
  rintro e w1 ⟨A', c', rfl, -, -, hg⟩
  clear hw
  go_wp2
  go_ret
  exact ⟨rfl, hg⟩

set_option maxRecDepth 100000 in
set_option maxHeartbeats 2000000 in
theorem first_call {S : Nat → Prop} {w : World} {A : Option Addr} {n c : Nat} {l : List Nat} (hr : Row S w A n 1 (u64s l)) (hn : l.length = n) (hA : A = none → c = 0) (hm : n ≤ 1000000) (a : Nat) :
    Calls Try.prog 169 #[.slice A n c, .int .u64 (a : Int)] w fun e w' => ∃ A' c', e = .returned (.slice A' (n + 1) c') ∧ (A' = none → c' = 0) ∧ Row (fun b => w.heap.size ≤ b) w' A' (n + 1) 1 (u64s (a :: l)) ∧ Grow w w' := by
  obtain ⟨i22, hi, hz, hs, hby⟩ := info_parts info22
  have hga : Grow w (w.alloc (.cells #[.int .u64 (a : Int)] 22)) := (Below.refl _ _).alloc (Nat.le_refl _) _
  have hown : (w.alloc (.cells #[.int .u64 (a : Int)] 22)).ownsRow w.heap.size 22 1 (.slice (some ⟨w.heap.size, 0, none⟩) 1 1) 1 [.int .u64 (a : Int)] := World.ownsRow_lit (base := w.heap.size) (e := 22) (size := 1) w #[.int .u64 (a : Int)] 1 (Nat.le_refl _) (by decide) rfl
  have hr2 := hr.grow hga
  have hbase := hga.size
  go_enter Try.func169, Try.ntmps169
  go_wp2_with (at_builtin; go_loud (refine wpList_append_row (w.alloc (.cells #[.int .u64 (a : Int)] 22)) rfl (.tmp 7) (.tmp 8) 27 rfl w.heap.size 22 i22 (.int .u64 0) 1 8 Try.underlying27 hi hz hs hby rfl (by decide) _ 1 _ rfl hown A n c _ rfl hr2 hA (u64s_one _) (by unfold maxLen; omega) (by omega) hbase ?_))
  intro v' w4 hown4 ho4
  have hg4 : Grow w w4 := grow_own hga hown ho4
  have hown5 : w4.ownsRow w.heap.size 22 1 v' (n + 1) (u64s (a :: l)) := by rw [Nat.add_comm n 1]; exact hown4
  obtain ⟨Z, cz, rfl, hz0, hrz⟩ := own_open hown5
  clear hown4 hown5 ho4 hown hr2 hr
  go_wp2
  go_ret
  exact ⟨Z, cz, rfl, hz0, hrz, hg4⟩
end Go.Proofs.Ck

namespace Go.Proofs.Ck
open Go Go.RowKit

/-- Steps, cell by cell. -/
def stps (l : List (Nat × Nat)) : List Value := l.flatMap fun d => [.int .u8 (d.1 : Int), .int .u8 (d.2 : Int)]
theorem stps_get {l : List (Nat × Nat)} {i : Nat} {d : Nat × Nat} (h : l[i]? = some d) : (stps l)[i * 2]? = some (.int .u8 (d.1 : Int)) ∧ (stps l)[i * 2 + 1]? = some (.int .u8 (d.2 : Int)) := by
  induction l generalizing i with
  | nil => simp at h
  | cons e l ih =>
    have he : stps (e :: l) = .int .u8 (e.1 : Int) :: .int .u8 (e.2 : Int) :: stps l := rfl
    cases i with
    | zero =>
      simp only [List.getElem?_cons_zero, Option.some.injEq] at h
      subst h
      exact ⟨rfl, rfl⟩
    | succ i =>
      rw [he, show (i + 1) * 2 = i * 2 + 1 + 1 by omega]
      simp only [List.getElem?_cons_succ] at h ⊢
      exact ih h
section
variable {f : Nat → Nat} {all : List Nat} {L : Nat → List Nat}
theorem Led.step (h : Led f all L) {c off : Nat} (hc : c < 8) (hoff : off ∈ all) : Led (stepF f L c off) all (stepL L c off) := by
  unfold stepF stepL
  by_cases h1 : off ∈ L c
  · rw [if_pos h1, if_pos h1]
    exact h.unlink hc h1
  · rw [if_neg h1, if_neg h1]
    by_cases h2 : inL L off = false
    · rw [if_pos h2, if_pos h2]
      exact h.link hc hoff (inL_no h2)
    · rw [if_neg h2, if_neg h2]; exact h
theorem all_at {all : List Nat} (h0 : all ≠ []) (k : Nat) : all.getD (k % all.length) 0 ∈ all := by
  have hlen : 0 < all.length := List.length_pos_iff.2 h0
  rw [List.getD_eq_getElem?_getD, List.getElem?_eq_getElem (Nat.mod_lt _ hlen)]
  exact List.getElem_mem _
theorem Led.steps (h : Led f all L) (h0 : all ≠ []) (l : List (Nat × Nat)) : Led (stepsF all f L l) all (stepsL all L l) := by
  induction l generalizing f L with
  | nil => exact h
  | cons q r ih => exact ih (h.step (Nat.mod_lt _ (by omega)) (all_at h0 _))
end
/-- What a slot holds. -/
def SlotIs (v : Value) (l : List Nat) (w : World) (X : Nat → Prop) : Prop := ∃ A c, v = .slice A l.length c ∧ (A = none → c = 0) ∧ Row (fun b => ¬ X b) w A l.length 1 (u64s l)
theorem stable_slot {v : Value} {l : List Nat} : Stable (SlotIs v l) := fun _ _ _ _ hn ⟨A, c, h1, h2, h3⟩ => ⟨A, c, h1, h2, stable_row _ _ _ _ hn h3⟩
/-- What the slots hold. -/
def Slots (cs : Array Value) (L : Nat → List Nat) (w : World) (X : Nat → Prop) : Prop := ∀ d, d < 8 → ∃ v, cs[d]? = some v ∧ SlotIs v (L d) w X
theorem stable_slots {cs : Array Value} {L : Nat → List Nat} : Stable (Slots cs L) := fun _ _ _ _ hn h d hd => by
  obtain ⟨v, h1, h2⟩ := h d hd
  exact ⟨v, h1, stable_slot _ _ _ _ hn h2⟩
theorem Slots.put {cs : Array Value} {L L' : Nat → List Nat} {w : World} {X : Nat → Prop} (h : Slots cs L w X) {c : Nat} {u : Value} {l : List Nat} (hs : cs.size = 8) (hc : c < 8) (hu : SlotIs u l w X) (hL : L' c = l) (hL2 : ∀ d, d ≠ c → L' d = L d) : Slots (cs.setIfInBounds c u) L' w X := fun d hd => by
  by_cases e : d = c
  · subst e
    refine ⟨u, ?_, by rw [hL]; exact hu⟩
    rw [Array.getElem?_setIfInBounds, if_pos rfl, if_pos (by omega)]
  · obtain ⟨v, h1, h2⟩ := h d hd
    refine ⟨v, ?_, by rw [hL2 d e]; exact h2⟩
    rw [Array.getElem?_setIfInBounds, if_neg (fun e' => e e'.symm)]
    exact h1
/-- The first lists' blocks: is one among them. -/
def inN (L : Nat → List Nat) (off k : Nat) : Bool := (List.range k).any fun d => decide (off ∈ L d)
theorem inN_succ (L : Nat → List Nat) (off k : Nat) : inN L off (k + 1) = (inN L off k || decide (off ∈ L k)) := by
  unfold inN
  rw [List.range_succ, List.any_append]
  simp
theorem inN_all (L : Nat → List Nat) (off : Nat) : inN L off 8 = inL L off := rfl
end Go.Proofs.Ck

namespace Go.Proofs.Ck
open Go Go.RowKit

theorem only_setRow {w : World} (q : Nat) (cs : Array Value) : Only (fun b => b = q) w (w.setRow q cs) :=
  ⟨rfl, rfl, rfl, by rw [size_setRow]; exact Nat.le_refl _, fun k _ hk => setRow_other w q k cs hk⟩
section
variable {base : Nat} {M0 : Nat → Prop} {w0 w : World} {v : Value} {σ : St} {f : Nat → Nat} {bx : List Bx} {K : World → (Nat → Prop) → Prop}
theorem Ctx.setRow {q : Nat} {cs : Array Value} {t : TypeId} (h : Ctx base M0 w0 w v σ ((q, cs, t) :: bx) K) (cs' : Array Value) : Ctx base M0 w0 (w.setRow q cs') v σ ((q, cs', t) :: bx) K := by
  obtain ⟨hK, M, h1, h2, h3, h4⟩ := h
  obtain ⟨g1, g2, g3, g4⟩ := h3.at_ _ (List.mem_cons_self ..)
  have ho : Only (fun b => b = q) w (w.setRow q cs') := only_setRow q cs'
  have hnd := h3.nodup
  rw [List.map_cons, List.nodup_cons] at hnd
  refine ⟨hK, M, h1.other ho (fun b hb => ?_), h2.trans' ho g4, ⟨fun x hx => ?_, ?_⟩, hK _ _ _ _ ?_ h4⟩
  · subst hb; exact ⟨g2, g3⟩
  · rcases List.mem_cons.1 hx with rfl | hx
    · exact ⟨setRow_heap w q cs cs' t (0, 0) g1, g2, g3, g4⟩
    · obtain ⟨k1, k2, k3, k4⟩ := h3.at_ x (List.mem_cons_of_mem _ hx)
      have hm : x.1 ∈ bx.map (·.1) := List.mem_map_of_mem hx
      exact ⟨ho.heap k1 (fun e => hnd.1 (e ▸ hm)), k2, k3, k4⟩
  · rw [List.map_cons, List.nodup_cons]; exact hnd
  · refine ⟨ho.mono fun k _ hk => .inr (by subst hk; simp), fun b hb => .inl hb⟩
theorem Law.setRow {q : Nat} {cs : Array Value} {t : TypeId} (h : Law base M0 w0 w v f ((q, cs, t) :: bx) K) (cs' : Array Value) : Law base M0 w0 (w.setRow q cs') v f ((q, cs', t) :: bx) K := by
  obtain ⟨σ, h1, h2⟩ := h
  exact ⟨σ, h1.setRow cs', h2⟩
end
end Go.Proofs.Ck

namespace Go.Proofs.Ck
open Go Go.RowKit

theorem info122 : (Try.prog.info? 122).map (·.size) = some 8 := by kernel_rfl
theorem results_c122 {fn : Func} {tmps : Array Value} {p u : Tmp} {W : World} {g : Nat} {cs : Array Value} {y : Value} {fr : Nat × Nat} (hf : fn.results = #[.cell p 122, .tmp u])
    (hp : tmps.getD p undef = .pointer (some ⟨g, 0, none⟩)) (hu : tmps.getD u undef = y) (hg : W.heap[g]? = some (.cells cs 122 fr)) (h8 : cs.size = 8) :
    (results fn tmps).run Try.prog W = .ok (.tuple #[.agg cs, y]) W := by
  rw [results_cell_tmp hf, hp, hu]
  simp only [asAddr, Sem.run_pure, Result.andThen_ok]
  rw [run_loadVar_row W g 122 122 cs fr _ hg Try.underlying122 rfl (info122.trans (by rw [h8]))]
  rfl
set_option maxRecDepth 100000 in
set_option maxHeartbeats 8000000 in
theorem played_L {base : Nat} {M0 : Nat → Prop} {w0 w : World} {v : Value} {f0 : Nat → Nat} {K : World → (Nat → Prop) → Prop} {A0 D : Option Addr} {n cA m : Nat} {all : List Nat} {l : List (Nat × Nat)}
    (L0 : Law base M0 w0 w v f0 [] fun w X => Row (fun b => ¬ X b) w A0 n 1 (u64s all) ∧ K w X) (hK : Stable K) (hn : all.length = n) (h0 : all ≠ []) (hn21 : n ≤ 21) (hled : Led f0 all fun _ => [])
    (hD : ∀ w X, K w X → Row (fun b => ¬ X b) w D l.length 2 (stps l)) (hb : ∀ q ∈ l, q.1 < 256 ∧ q.2 < 256) (hl : l.length ≤ 9223372036854775807) :
    Calls Try.prog 112 #[v, .slice A0 n cA, .slice D l.length m] w fun e w' => ∃ cs, e = .returned (.tuple #[.agg cs, .bool true]) ∧ cs.size = 8 ∧
      Law base M0 w0 w' v (stepsF all f0 (fun _ => []) (l.take 40)) [] fun w X => Slots cs (stepsL all (fun _ => []) (l.take 40)) w X ∧ Row (fun b => ¬ X b) w A0 n 1 (u64s all) ∧ K w X := by
  obtain ⟨p, rfl⟩ := L0.ptr
  have L2 := (L0.alloc #[.slice none 0 0, .slice none 0 0, .slice none 0 0, .slice none 0 0, .slice none 0 0, .slice none 0 0, .slice none 0 0, .slice none 0 0] 122).alloc #[.slice none 0 0, .slice none 0 0, .slice none 0 0, .slice none 0 0, .slice none 0 0, .slice none 0 0, .slice none 0 0, .slice none 0 0] 122
  have al : Try.prog.arrayLen 122 = 8 := by kernel_rfl
  have hs0 : ∀ w X, Slots #[.slice none 0 0, .slice none 0 0, .slice none 0 0, .slice none 0 0, .slice none 0 0, .slice none 0 0, .slice none 0 0, .slice none 0 0] (fun _ => []) w X := fun w X d hd => ⟨.slice none 0 0, by match d, hd with | 0, _ => rfl | 1, _ => rfl | 2, _ => rfl | 3, _ => rfl | 4, _ => rfl | 5, _ => rfl | 6, _ => rfl | 7, _ => rfl, none, 0, rfl, fun _ => rfl, Row.empty⟩
  have L3 := L2.less (L := fun w X => Slots #[.slice none 0 0, .slice none 0 0, .slice none 0 0, .slice none 0 0, .slice none 0 0, .slice none 0 0, .slice none 0 0, .slice none 0 0] (stepsL all (fun _ => []) ((l.take 40).take 0)) w X ∧ Row (fun b => ¬ X b) w A0 n 1 (u64s all) ∧ K w X) (stable_slots.and (stable_row.and hK)) (fun w X h => ⟨hs0 w X, h⟩)
  clear L2 L0 hs0
  have hnp : 0 < n := by rw [← hn]; exact List.length_pos_iff.2 h0
  go_enter Try.func112, Try.ntmps112
  go_wp2_with fail
  rw [World.size_alloc] at L3
  generalize (w.alloc (Obj.cells #[.slice none 0 0, .slice none 0 0, .slice none 0 0, .slice none 0 0, .slice none 0 0, .slice none 0 0, .slice none 0 0, .slice none 0 0] 122)).alloc (Obj.cells #[.slice none 0 0, .slice none 0 0, .slice none 0 0, .slice none 0 0, .slice none 0 0, .slice none 0 0, .slice none 0 0, .slice none 0 0] 122) = w2 at *
  generalize w.heap.size + 1 = q8 at *
  generalize w.heap.size = q6 at *
  go_loopw [9, 10] (fun t9 t10 wr => ∃ (k : Nat) (cs : Array Value), k ≤ (l.take 40).length ∧ t9 = .bool true ∧ t10 = .int .i64 (k : Int) ∧ cs.size = 8 ∧
      Law base M0 w0 wr (.pointer p) (stepsF all f0 (fun _ => []) ((l.take 40).take k)) [(q8, cs, 122), (q6, #[.slice none 0 0, .slice none 0 0, .slice none 0 0, .slice none 0 0, .slice none 0 0, .slice none 0 0, .slice none 0 0, .slice none 0 0], 122)] (fun w X => Slots cs (stepsL all (fun _ => []) ((l.take 40).take k)) w X ∧ Row (fun b => ¬ X b) w A0 n 1 (u64s all) ∧ K w X))
    (fun _ t10 _ => l.length - (intOf t10).toNat)
  case atStart => exact ⟨0, #[.slice none 0 0, .slice none 0 0, .slice none 0 0, .slice none 0 0, .slice none 0 0, .slice none 0 0, .slice none 0 0, .slice none 0 0], Nat.zero_le _, rfl, rfl, rfl, by rw [List.take_zero] at L3 ⊢; exact L3⟩
  case round =>
    clear L3
    obtain ⟨k, cs, hk, rfl, rfl, hcs, L4⟩ := hrel
    have htl : (l.take 40).length = min 40 l.length := List.length_take
    have gn : decide ((0 : Int) < (n : Int)) = true := decide_eq_true (by omega)
    by_cases hlt : k < (l.take 40).length
    · have g0 : decide ((k : Int) < l.length) = true := decide_eq_true (by omega)
      have g1 : decide ((k : Int) < 40) = true := decide_eq_true (by omega)
      obtain ⟨q, hq⟩ : ∃ q, (l.take 40)[k]? = some q := ⟨_, List.getElem?_eq_getElem hlt⟩
      have hq' : l[k]? = some q := by rw [List.getElem?_take] at hq; split at hq; exact hq; cases hq
      obtain ⟨hx8, hy8⟩ := hb q (List.mem_of_getElem? hq')
      obtain ⟨e1, e2⟩ := stps_get hq'
      have hnF := stepsF_snoc all q ((l.take 40).take k) f0 (fun _ => [])
      have hnL := stepsL_snoc all q ((l.take 40).take k) (fun _ => [])
      rw [← take_snoc hq] at hnF hnL
      have hledk := hled.steps h0 ((l.take 40).take k)
      have hom := all_at h0 q.2
      rw [hn] at hnF hnL hom
      obtain ⟨F, hF⟩ : ∃ F, stepsF all f0 (fun _ => []) ((l.take 40).take k) = F := ⟨_, rfl⟩
      obtain ⟨Ls, hLs⟩ : ∃ F, stepsL all (fun _ => []) ((l.take 40).take k) = F := ⟨_, rfl⟩
      rw [hF, hLs] at hnF hledk
      rw [hLs] at hnL L4
      try rw [hF] at L4
      obtain ⟨x, y⟩ := q
      simp only at hx8 hy8 e1 e2 hnF hnL hom
      obtain ⟨c, hc⟩ : ∃ c, x % 8 = c := ⟨_, rfl⟩
      obtain ⟨j, hj⟩ : ∃ j, y % n = j := ⟨_, rfl⟩
      obtain ⟨o, ho⟩ : ∃ o, all.getD j 0 = o := ⟨_, rfl⟩
      rw [hc, hj, ho] at hnF hnL
      rw [hj, ho] at hom
      have hc8 : c < 8 := by omega
      have hjn : j < n := by rw [← hj]; exact Nat.mod_lt _ hnp
      have hnext := hledk.step hc8 hom
      have htold := hnext.lists.told hnext.room hc8
      have HN := Lib.hid (⟨hnF, hnL, htold, hledk, hom⟩ : _ ∧ _ ∧ _ ∧ _ ∧ _)
      obtain ⟨X, hX⟩ := L4.know
      obtain ⟨bA, oA, hA0, -, hcA⟩ := hX.2.1.pos (by omega) (by omega)
      obtain ⟨bD, oD, hD0, -, hcD⟩ := (hD _ _ hX.2.2).pos (by omega) (by omega)
      have xA := hcA j _ (u64s_get (by omega))
      rw [ho] at xA
      have xD0 := hcD _ _ e1
      have xD1 := hcD _ _ e2
      rw [← Nat.add_assoc] at xD1
      have m1 : IntKind.u8.wrap ((x : Int) % 8) = (c : Int) := by rw [IntKind.wrap_u8]; omega
      have m2 : (x : Int) % 8 = (c : Int) := by omega
      have m3 : (x : Int).tmod 8 = (c : Int) := by rw [Int.tmod_eq_emod_of_nonneg (by omega)]; omega
      have m4 : IntKind.u8.wrap (c : Int) = (c : Int) := by rw [IntKind.wrap_u8]; omega
      have m5 : IntKind.i64.wrap (c : Int) = (c : Int) := by rw [IntKind.wrap_i64]; omega
      have n1' : IntKind.i64.wrap (y : Int) = (y : Int) := by rw [IntKind.wrap_i64]; omega
      have n2' : (y : Int) % (n : Int) = (j : Int) := by rw [← hj, Int.natCast_emod]
      have n3' : (y : Int).tmod (n : Int) = (j : Int) := by rw [Int.tmod_eq_emod_of_nonneg (by omega)]; exact n2'
      have n4' : IntKind.i64.wrap (j : Int) = (j : Int) := by rw [IntKind.wrap_i64]; omega
      have n5' : ¬ n = 0 := by omega
      have gi0 : (0 : Int) ≤ k := by omega
      have gi1 : (k : Int) < l.length := by omega
      have gj0 : (0 : Int) ≤ j := by omega
      have gj1 : (j : Int) < n := by omega
      have gc : (0 : Int) ≤ (c : Int) ∧ (c : Int) < 8 := by omega
      clear hX X hcA hcD hq hq' hx8 hy8 e1 e2 hnF hnL hledk hom hF hLs hc hj ho hnext htold htl
      subst hA0
      subst hD0
      go_wp2_with fail
      clear xA xD0 xD1 m1 m2 m3 m4 m5 n1' n2' n3' n4' g0 g1 gn
      go_loopw [13, 14] (fun t13 t14 wx => ∃ d : Nat, d ≤ 8 ∧ t13 = .bool (inN Ls o d) ∧ t14 = .int .i64 (d : Int) ∧ Law base M0 w0 wx (.pointer p) F [(q8, cs, 122), (q6, #[.slice none 0 0, .slice none 0 0, .slice none 0 0, .slice none 0 0, .slice none 0 0, .slice none 0 0, .slice none 0 0, .slice none 0 0], 122)] (fun w X => Slots cs Ls w X ∧ Row (fun b => ¬ X b) w (some ⟨bA, oA, none⟩) n 1 (u64s all) ∧ K w X)) (fun _ t14 _ => 8 - (intOf t14).toNat)
      case atStart => exact ⟨0, Nat.zero_le _, rfl, rfl, L4⟩
      case round =>
        clear L4
        obtain ⟨d, hd, rfl, rfl, L5⟩ := hrel
        by_cases hd8 : d < 8
        · have g0 : decide ((d : Int) < 8) = true := decide_eq_true (by omega)
          have gd : (0 : Int) ≤ (d : Int) ∧ (d : Int) < 8 := by omega
          obtain ⟨X, hX⟩ := L5.know
          obtain ⟨vd, hvd, Ad, cd, rfl, -, hrd⟩ := hX.1 d hd8
          have xd := L5.cell (List.mem_cons_self ..) d
          rw [hvd] at xd
          have hfew := HN.out.2.2.2.1.few hd8
          have hsc := inN_succ Ls o d
          obtain ⟨b, hb'⟩ : ∃ b, decide (o ∈ Ls d) = b := ⟨_, rfl⟩
          rw [hb'] at hsc
          have HI := L5.read (in_call (c := cd) hrd rfl (by omega) o hb')
          have HS := Lib.hid hsc
          clear hsc hX hvd hrd X hb'
          obtain ⟨tb, htb⟩ : ∃ b, inN Ls o d = b := ⟨_, rfl⟩
          rw [htb] at HS ⊢
          clear htb
          cases tb
          · go_wp2_with fail
            refine HI.mono ?_
            rintro e wy ⟨rfl, L6⟩
            clear HI L5 xd
            go_wp2
            go_roundw
            case rel => exact ⟨d + 1, by omega, by rw [HS.out]; rfl, by go_num, L6⟩
            case measure => simp [intOf]; omega
          · clear HI
            go_wp2
            go_roundw
            case rel => exact ⟨d + 1, by omega, by rw [HS.out]; rfl, by go_num, L5⟩
            case measure => simp [intOf]; omega
        · obtain rfl : d = 8 := by omega
          rw [inN_all]
          have g0 : decide (((8 : Nat) : Int) < 8) = false := decide_eq_false (by omega)
          obtain ⟨X, hX⟩ := L5.know
          obtain ⟨vc, hvc, Ac, cc, rfl, hAc, hrc⟩ := hX.1 c hc8
          have xc := L5.cell (List.mem_cons_self ..) c
          rw [hvc] at xc
          have hfew := HN.out.2.2.2.1.few hc8
          by_cases hin : o ∈ Ls c
          · have HI := L5.read (in_call (c := cc) hrc rfl (by omega) o (decide_eq_true hin))
            clear hX hrc X
            go_wp2_with fail
            refine HI.mono ?_
            rintro e w1 ⟨rfl, L6⟩
            clear HI L5 xc
            have HU := L6.unlinkL HN.out.2.2.2.1 hc8 hin
            go_wp2_with fail
            refine HU.mono ?_
            rintro e w2 ⟨rfl, L7⟩
            clear HU L6
            obtain ⟨X, hX⟩ := L7.know
            obtain ⟨vc', hvc', Ac', cc', e9, hAc', hrc⟩ := hX.1 c hc8
            rw [hvc] at hvc'
            cases hvc'
            cases e9
            have xc := L7.cell (List.mem_cons_self ..) c
            rw [hvc] at xc
            obtain ⟨l', hl'⟩ : ∃ r, (Ls c).filter (· != o) = r := ⟨_, rfl⟩
            obtain ⟨n', hn'⟩ : ∃ r, l'.length = r := ⟨_, rfl⟩
            have HW := wo_call (c := cc) hrc rfl (by omega) o hl' hn'
            clear hX hrc X
            go_wp2_with fail
            refine HW.mono ?_
            rintro e w3 ⟨A', c', rfl, hA', hr', hg'⟩
            have L8 := L7.addRow hg' hr'
            have fc := L8.frozen (List.mem_cons_self ..) c
            have yc := L8.cell (List.mem_cons_self ..) c
            rw [hvc] at yc
            have L9 := L8.set c (.slice A' n' c')
            clear HW L7 hg' hr' L8 xc
            have ef : unlinkF F c o = stepF F Ls c o := by unfold stepF; rw [if_pos hin]
            have eL : stepL Ls c o = setL Ls c l' := by unfold stepL; rw [if_pos hin, hl']
            rw [ef] at L9
            have L10 := L9.less (L := fun w X => Slots (cs.setIfInBounds c (.slice A' n' c')) (stepL Ls c o) w X ∧ Row (fun b => ¬ X b) w (some ⟨bA, oA, none⟩) n 1 (u64s all) ∧ K w X) (stable_slots.and (stable_row.and hK)) (fun w X h => ⟨h.2.1.put hcs hc8 ⟨A', c', by rw [hn'], hA', by rw [hn']; exact h.1⟩ (by rw [eL]; exact if_pos rfl) (fun d hd => by rw [eL]; exact if_neg hd), h.2.2⟩)
            have HLc : Hid (stepL Ls c o c = l') := Lib.hid (by rw [eL]; exact if_pos rfl)
            clear L9 ef eL
            have hc2 : (cs.setIfInBounds c (.slice A' n' c')).size = 8 := by rw [Array.size_setIfInBounds]; exact hcs
            obtain ⟨X, hX⟩ := L10.know
            obtain ⟨v9, hv9, A9, c9, e9, -, hr9⟩ := hX.1 c hc8
            have hcell : (cs.setIfInBounds c (.slice A' n' c'))[c]? = some (.slice A' n' c') := by rw [Array.getElem?_setIfInBounds, if_pos rfl, if_pos (by omega)]
            rw [hcell] at hv9
            cases hv9
            rw [HLc.out, hn'] at e9 hr9
            cases e9
            have hmem : ∀ a ∈ l', a < 18446744073709551616 := fun a ha => by
              have := HN.out.2.2.1
              have h5 := (HN.out.2.2.2.1.step hc8 HN.out.2.2.2.2).mem hc8 (a := a) (by rw [HLc.out]; exact ha)
              omega
            have HC := L10.checkL (c : Int) (cA := c') hr9 hn' hmem (by have h6 := (HN.out.2.2.2.1.step hc8 HN.out.2.2.2.2).few hc8; rw [HLc.out, hn'] at h6; omega)
            rw [show chkB (stepF F Ls c o) (c : Int) l' = true by rw [← HLc.out]; exact HN.out.2.2.1] at HC
            have xc := L10.cell (List.mem_cons_self ..) c
            rw [hcell] at xc
            clear hX X hr9 hmem hcell
            go_wp2_with fail
            refine HC.mono ?_
            rintro e w11 ⟨rfl, L11⟩
            clear HC L10 xc fc yc
            go_wp2
            go_roundw
            case rel => exact ⟨k + 1, cs.setIfInBounds c (.slice A' n' c'), by omega, rfl, by go_num, hc2, by rw [HN.out.1, HN.out.2.1]; exact L11⟩
            case measure => simp [intOf]; omega
          · have HI := L5.read (in_call (c := cc) hrc rfl (by omega) o (decide_eq_false hin))
            clear hX hrc X
            obtain ⟨ti, hti⟩ : ∃ b, inL Ls o = b := ⟨_, rfl⟩
            rw [hti]
            cases ti
            · go_wp2_with fail
              refine HI.mono ?_
              rintro e w1 ⟨rfl, L6⟩
              clear HI L5 xc
              have HU := L6.linkL HN.out.2.2.2.1 hc8 HN.out.2.2.2.2
              go_wp2_with fail
              refine HU.mono ?_
              rintro e w2 ⟨rfl, L7⟩
              clear HU L6
              obtain ⟨X, hX⟩ := L7.know
              obtain ⟨vc', hvc', Ac', cc', e9, hAc', hrc⟩ := hX.1 c hc8
              rw [hvc] at hvc'
              cases hvc'
              cases e9
              have xc := L7.cell (List.mem_cons_self ..) c
              rw [hvc] at xc
              obtain ⟨l', hl'⟩ : ∃ r, o :: Ls c = r := ⟨_, rfl⟩
              obtain ⟨n', hn1⟩ : ∃ r, (Ls c).length + 1 = r := ⟨_, rfl⟩
              have hn' : l'.length = n' := by rw [← hl', ← hn1]; rfl
              have HW := first_call (c := cc) hrc rfl hAc (by omega) o
              rw [hn1, hl'] at HW
              clear hX hrc X
              go_wp2_with fail
              refine HW.mono ?_
              rintro e w3 ⟨A', c', rfl, hA', hr', hg'⟩
              have L8 := L7.addRow hg' hr'
              have fc := L8.frozen (List.mem_cons_self ..) c
              have yc := L8.cell (List.mem_cons_self ..) c
              rw [hvc] at yc
              have L9 := L8.set c (.slice A' n' c')
              clear HW L7 hg' hr' L8 xc
              have ef : linkF F c o = stepF F Ls c o := by unfold stepF; rw [if_neg hin, if_pos hti]
              have eL : stepL Ls c o = setL Ls c l' := by unfold stepL; rw [if_neg hin, if_pos hti, hl']
              rw [ef] at L9
              have L10 := L9.less (L := fun w X => Slots (cs.setIfInBounds c (.slice A' n' c')) (stepL Ls c o) w X ∧ Row (fun b => ¬ X b) w (some ⟨bA, oA, none⟩) n 1 (u64s all) ∧ K w X) (stable_slots.and (stable_row.and hK)) (fun w X h => ⟨h.2.1.put hcs hc8 ⟨A', c', by rw [hn'], hA', by rw [hn']; exact h.1⟩ (by rw [eL]; exact if_pos rfl) (fun d hd => by rw [eL]; exact if_neg hd), h.2.2⟩)
              have HLc : Hid (stepL Ls c o c = l') := Lib.hid (by rw [eL]; exact if_pos rfl)
              clear L9 ef eL
              have hc2 : (cs.setIfInBounds c (.slice A' n' c')).size = 8 := by rw [Array.size_setIfInBounds]; exact hcs
              obtain ⟨X, hX⟩ := L10.know
              obtain ⟨v9, hv9, A9, c9, e9, -, hr9⟩ := hX.1 c hc8
              have hcell : (cs.setIfInBounds c (.slice A' n' c'))[c]? = some (.slice A' n' c') := by rw [Array.getElem?_setIfInBounds, if_pos rfl, if_pos (by omega)]
              rw [hcell] at hv9
              cases hv9
              rw [HLc.out, hn'] at e9 hr9
              cases e9
              have hmem : ∀ a ∈ l', a < 18446744073709551616 := fun a ha => by
                have := HN.out.2.2.1
                have h5 := (HN.out.2.2.2.1.step hc8 HN.out.2.2.2.2).mem hc8 (a := a) (by rw [HLc.out]; exact ha)
                omega
              have HC := L10.checkL (c : Int) (cA := c') hr9 hn' hmem (by have h6 := (HN.out.2.2.2.1.step hc8 HN.out.2.2.2.2).few hc8; rw [HLc.out, hn'] at h6; omega)
              rw [show chkB (stepF F Ls c o) (c : Int) l' = true by rw [← HLc.out]; exact HN.out.2.2.1] at HC
              have xc := L10.cell (List.mem_cons_self ..) c
              rw [hcell] at xc
              clear hX X hr9 hmem hcell
              go_wp2_with fail
              refine HC.mono ?_
              rintro e w11 ⟨rfl, L11⟩
              clear HC L10 xc fc yc
              go_wp2
              go_roundw
              case rel => exact ⟨k + 1, cs.setIfInBounds c (.slice A' n' c'), by omega, rfl, by go_num, hc2, by rw [HN.out.1, HN.out.2.1]; exact L11⟩
              case measure => simp [intOf]; omega
            · have ef : F = stepF F Ls c o := by unfold stepF; rw [if_neg hin, if_neg (by rw [hti]; simp)]
              have eL : Ls = stepL Ls c o := by unfold stepL; rw [if_neg hin, if_neg (by rw [hti]; simp)]
              have ht := HN.out.2.2.1
              rw [← ef, ← eL] at ht
              have HE := Lib.hid (⟨ef, eL⟩ : _ ∧ _)
              clear ef eL
              go_wp2_with fail
              refine HI.mono ?_
              rintro e w1 ⟨rfl, L6⟩
              clear HI L5 xc
              obtain ⟨X, hX⟩ := L6.know
              obtain ⟨vc', hvc', Ac', cc', e9, hAc', hrc⟩ := hX.1 c hc8
              rw [hvc] at hvc'
              cases hvc'
              cases e9
              have xc := L6.cell (List.mem_cons_self ..) c
              rw [hvc] at xc
              have hmem : ∀ a ∈ Ls c, a < 18446744073709551616 := fun a ha => by have := HN.out.2.2.2.1.mem hc8 ha; omega
              have HC := L6.checkL (c : Int) (cA := cc) hrc rfl hmem (by omega)
              rw [ht] at HC
              clear hX X hrc hmem ht
              go_wp2_with fail
              refine HC.mono ?_
              rintro e w11 ⟨rfl, L11⟩
              clear HC L6 xc
              go_wp2
              go_roundw
              case rel => exact ⟨k + 1, cs, by omega, rfl, by go_num, hcs, by rw [HN.out.1, HN.out.2.1, ← HE.out.1, ← HE.out.2]; exact L11⟩
              case measure => simp [intOf]; omega
    · obtain rfl : k = (l.take 40).length := by omega
      rw [List.take_length] at L4
      have hq8 := L4.box (List.mem_cons_self ..)
      have hq6 := L4.box (List.mem_cons_of_mem _ (List.mem_cons_self ..))
      have L6 := (L4.swap.setRow cs)
      have hbx := L6.box (List.mem_cons_self ..)
      have HB := Lib.hid hbx
      have HL := Lib.hid L6.bare
      have hone : cs.all (·.oneCell') = true := by
        obtain ⟨X, hX, -⟩ := L4.know
        rw [Array.all_eq_true]
        intro i hi
        obtain ⟨v, hv, A, c, rfl, -⟩ := hX i (by omega)
        rw [Array.getElem?_eq_getElem hi, Option.some.injEq] at hv
        rw [hv]
        rfl
      clear hbx L4 L6
      by_cases h40 : l.length ≤ 40
      · have g0 : decide (((l.take 40).length : Int) < l.length) = false := decide_eq_false (by omega)
        go_wp2_with (first
          | (refine wpList_load_row rfl 122 (.tmp 8) rfl q8 rfl 122 cs (0, 0) _ hq8 Try.underlying122 rfl (info122.trans (by rw [hcs])) ?_)
          | (refine wpList_store_row rfl 122 (.tmp 6) (.tmp 99) rfl q6 cs rfl rfl 122 _ hq6 (info122.trans (by rw [hcs])) (by rw [hcs]; rfl) hone ?_))
        refine bodyPost_ret (results_c122 (g := q6) (fr := (0, 0)) rfl rfl rfl HB.out hcs) rfl ⟨cs, rfl, hcs, HL.out⟩
      · have g0 : decide (((l.take 40).length : Int) < l.length) = true := decide_eq_true (by omega)
        have g1 : decide (((l.take 40).length : Int) < 40) = false := decide_eq_false (by omega)
        go_wp2_with (first
          | (refine wpList_load_row rfl 122 (.tmp 8) rfl q8 rfl 122 cs (0, 0) _ hq8 Try.underlying122 rfl (info122.trans (by rw [hcs])) ?_)
          | (refine wpList_store_row rfl 122 (.tmp 6) (.tmp 99) rfl q6 cs rfl rfl 122 _ hq6 (info122.trans (by rw [hcs])) (by rw [hcs]; rfl) hone ?_))
        refine bodyPost_ret (results_c122 (g := q6) (fr := (0, 0)) rfl rfl rfl HB.out hcs) rfl ⟨cs, rfl, hcs, HL.out⟩
end Go.Proofs.Ck
