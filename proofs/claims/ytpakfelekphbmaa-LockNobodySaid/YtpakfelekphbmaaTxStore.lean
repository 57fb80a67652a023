/- Words that are thought of: one more. -/
import Derived.Test.YtpakfelekphbmaaTx
import Derived.Test.YtpakfelekphbmaaPush
namespace Go.Proofs.Ck
open Go Go.RowKit

theorem Only.heapSet {S : Nat → Prop} {a b : World} (h : Only S a b) {r : Nat} (hr : S r) (o : Obj) : Only S a { b with heap := b.heap.setIfInBounds r o } :=
  h.trans ⟨rfl, rfl, rfl, by simp, fun k _ hs => by
    have : r ≠ k := fun e => hs (e ▸ hr)
    simp [this]⟩

theorem own_moved {w w' : World} {base : Nat} {e : TypeId} {k n : Nat} {v : Value} {xs : List Value} (h : w.ownsRow base e k v n xs) (hm : ∀ b, v.ownBlock = some b → w'.heap[b]? = w.heap[b]?) : w'.ownsRow base e k v n xs := by
  refine ⟨h.1, ?_⟩
  rcases h.2 with h0 | ⟨g, cap, cur, rfl, hb, hg, hr⟩
  · exact .inl h0
  · exact .inr ⟨g, cap, cur, rfl, hb, (hm g rfl).trans hg, hr⟩
theorem own_cells {w : World} {base : Nat} {e : TypeId} {k n : Nat} {v : Value} {xs : List Value} (h : w.ownsRow base e k v n xs) {b : Nat} (hb : v.ownBlock = some b) : ∃ cur, w.heap[b]? = some (.cells cur e (0, 0)) := by
  rcases h.2 with ⟨rfl, _⟩ | ⟨g, cap, cur, rfl, _, hg, _⟩
  · cases hb
  · cases hb
    exact ⟨cur, hg⟩

theorem rep_set {w : World} {base tb mb : Nat} {T : Value} {sb bb cap : Nat} {cs : Array Value} {W : List Nat} {p : List (Nat × Nat)} {es es' : Array MapEntry} {clock clock' : Nat}
    (tx : w.heap[tb]? = some (.cells #[.pointer (some ⟨sb, 0, none⟩), .map (some mb), T] 194 (0, 0))) (seg : SegRep w sb bb cap cs W) (hm : w.heap[mb]? = some (.map es clock)) (he : Entries es' p)
    (turn : w.ownsRow base 22 1 T p.length (u64s (p.map (·.1)))) (nodup : (p.map (·.1)).Nodup) (dom : ∀ q ∈ p, (q.1 % 8 = 0 ∧ q.1 / 8 < W.length) ∧ q.1 < 18446744073709551616 ∧ q.2 < 18446744073709551616)
    (baseT : base ≤ tb) (baseM : base ≤ mb) (baseS : sb < base ∧ bb < base) : TxRep { w with heap := w.heap.setIfInBounds mb (.map es' clock') } base tb mb T sb bb cap cs ⟨W, p⟩ := by
  have hs := MapKept.heap_set (o' := .map es' clock') hm
  have hne : ∀ {k : Nat} {c : Array Value} {t : TypeId} {f : Nat × Nat}, w.heap[k]? = some (.cells c t f) → k ≠ mb := fun hk e => by
    subst e
    rw [hk] at hm
    cases hm
  exact ⟨(hs.2 _ (hne tx)).trans tx, seg.moved (hs.2 _ (hne seg.seg)) (hs.2 _ (hne seg.bytes)), ⟨es', clock', hs.1, he⟩,
    own_moved turn (fun b hb => by obtain ⟨cur, hc⟩ := own_cells turn hb; exact hs.2 _ (hne hc)), nodup, dom, baseT, baseM, baseS⟩

theorem pput_dom {p : List (Nat × Nat)} {D : Nat × Nat → Prop} {off v : Nat} (h : ∀ q ∈ p, D q) (hn : D (off, v)) : ∀ q ∈ pput p off v, D q := by
  intro q hq
  unfold pput at hq
  split at hq
  · obtain ⟨r, hr, rfl⟩ := List.mem_map.1 hq
    split
    · exact hn
    · exact h r hr
  · rcases List.mem_append.1 hq with hq | hq
    · exact h q hq
    · rw [List.mem_singleton.1 hq]; exact hn
theorem pput_nodup {p : List (Nat × Nat)} {off v : Nat} (h : (p.map (·.1)).Nodup) : ((pput p off v).map (·.1)).Nodup := by
  rw [pput_keys]
  split
  · exact h
  · next hs =>
    rw [plook_mem] at hs
    rw [List.nodup_append]
    refine ⟨h, by simp, ?_⟩
    intro a ha b hb e
    rw [List.mem_singleton] at hb
    subst hb
    exact hs (e ▸ ha)

set_option maxRecDepth 100000 in
theorem store_call {w : World} {base : Nat} {v : Value} {M : Nat → Prop} {σ : St} (h : TxAt w base v M σ) (off x : Nat) (ho : off < 18446744073709551616) (hx : x < 18446744073709551616) (hn : σ.p.length < 1000000) :
    Calls Try.prog 82 #[v, .int .u64 (off : Int), .int .u64 (x : Int)] w fun e w' => e = .returned (.tuple #[]) ∧ ∃ M', TxAt w' base v M' (σ.store off x) ∧ Only M w w' ∧ ∀ b, M' b → M b ∨ w.heap.size ≤ b := by
  obtain ⟨tb, mb, T, sb, bb, cap, cs, rfl, rfl, h⟩ := h
  have c0 : w.cell? ⟨tb, 0, none⟩ = some (.pointer (some ⟨sb, 0, none⟩)) := by rw [cell_of_heap h.tx]; rfl
  by_cases hc : off % 8 = 0 ∧ off / 8 < σ.W.length
  · have hst : σ.store off x = ⟨σ.W, pput σ.p off x⟩ := by unfold St.store; rw [if_pos hc]
    rw [hst]
    have hld := load_ok h.seg off hc.1 hc.2
    generalize σ.W.getD (off / 8) 0 = V at hld
    go_enter Try.func82, Try.ntmps82
    go_wp2_with fail
    refine hld.mono ?_
    rintro e w1 ⟨rfl, hg⟩
    have h1 := h.grow hg
    clear c0 h hld
    have c1 : w1.cell? ⟨tb, 1, none⟩ = some (.map (some mb)) := by rw [cell_of_heap h1.tx]; rfl
    have c2 : w1.cell? ⟨tb, 2, none⟩ = some T := by rw [cell_of_heap h1.tx]; rfl
    obtain ⟨es, clock, hm, he⟩ := h1.map
    cases hl : plook σ.p off with
    | some U =>
      have hlk := run_lookup_some (P := Try.prog) Try.underlying192 Try.underlying22 hm he hl
      obtain ⟨es', clock', hmu, he'⟩ := run_mapUpdate_word (P := Try.prog) Try.underlying192 Try.underlying22 hm he h1.nodup off x
      have HE := Lib.hid he'
      have HM := Lib.hid hm
      clear he' he hm
      go_wp2
      go_end0
      have hlen : (pput σ.p off x).map (·.1) = σ.p.map (·.1) := by rw [pput_keys, hl]; rfl
      have hlen2 : (pput σ.p off x).length = σ.p.length := by have := congrArg List.length hlen; simpa using this
      have hrep := rep_set (clock' := clock') h1.tx h1.seg HM.out HE.out (by rw [hlen, hlen2]; exact h1.turn) (by rw [hlen]; exact h1.nodup)
        (pput_dom h1.dom ⟨hc, ho, hx⟩) h1.baseT h1.baseM h1.baseS
      exact ⟨rfl, _, ⟨tb, mb, T, sb, bb, cap, cs, rfl, rfl, hrep⟩, (Only.of_below hg).heapSet (.inr (.inl rfl)) _, fun b hb => .inl hb⟩
    | none =>
      have hlk := run_lookup_none (P := Try.prog) Try.underlying192 Try.underlying22 zero22 hm he hl
      obtain ⟨i22, hi, hz, hs, hb⟩ := info_parts info22
      have hown := h1.turn
      have hbase : base ≤ w1.heap.size := Nat.le_trans h1.baseT (Nat.le_of_lt (lt_of_heap h1.tx))
      generalize hnl : σ.p.length = n at hown hn
      have HN := Lib.hid hnl
      have H1 := Lib.hid h1
      have HM := Lib.hid hm
      have HE := Lib.hid he
      clear hnl h1 hm he
      have HC := Lib.hid c2
      go_wp2_with (at_builtin; refine wpList_push2 w1 rfl (.tmp 38) (.tmp 40) 27 rfl base 22 i22 (.int .u64 0) 1 8 Try.underlying27 hi hz hs hb rfl (by decide) T n _ rfl hown #[.int .u64 (off : Int)] rfl rfl (by simp [Value.oneCell']) rfl (by unfold maxLen; omega) (by omega) (by omega) ?_)
      intro T' w2 hown' ho2 hwh
      have hT' : ∃ A c, T' = .slice A (n + 1) c := by
        obtain ⟨g, c, _, e, _⟩ := own_form hown' (by omega)
        exact ⟨_, c, e⟩
      obtain ⟨A', c', rfl⟩ := hT'
      have h1 := H1.out
      have hnT : ∀ {k : Nat} {c : Array Value} {t : TypeId} {f : Nat × Nat}, w1.heap[k]? = some (.cells c t f) → t ≠ 22 → ¬ T.ownBlock = some k := fun hk ht e => by
        obtain ⟨cur, hc⟩ := own_cells hown e
        rw [hk] at hc
        cases hc
        exact ht rfl
      have hmT : ¬ T.ownBlock = some mb := fun e => by
        obtain ⟨cur, hc⟩ := own_cells hown e
        rw [HM.out] at hc
        cases hc
      have tx2 := ho2.heap h1.tx (hnT h1.tx (by decide))
      have seg2 := h1.seg.moved (ho2.block _ h1.seg.lt (hnT h1.seg.seg (by decide))) (ho2.block _ h1.seg.lt' (hnT h1.seg.bytes (by decide)))
      have hm2 := ho2.heap HM.out hmT
      have d2 : w2.cell? ⟨tb, 2, none⟩ = some T := by rw [cell_of_heap tx2]; rfl
      have d2f := frozen_of_heap tx2 2
      have tx3 : (w2.setCell ⟨tb, 2, none⟩ (.slice A' (n + 1) c')).heap[tb]? = some (.cells #[.pointer (some ⟨sb, 0, none⟩), .map (some mb), .slice A' (n + 1) c'] 194 (0, 0)) := heap_setCell_row tx2 _
      have hother : ∀ k, k ≠ tb → (w2.setCell ⟨tb, 2, none⟩ (.slice A' (n + 1) c')).heap[k]? = w2.heap[k]? := fun k hk => Below.heap_setCell _ _ _ _ (fun e => hk e)
      have hnt : ∀ {k : Nat} {o : Obj}, w2.heap[k]? = some o → (∀ c f, o ≠ .cells c 194 f) → k ≠ tb := fun hk ho e => by
        subst e
        rw [tx2] at hk
        cases hk
        exact ho _ _ rfl
      have seg3 := seg2.moved (hother sb (hnt seg2.seg (by intro c f e; cases e))) (hother bb (hnt seg2.bytes (by intro c f e; cases e)))
      have hm3 := (hother mb (hnt hm2 (by intro c f e; cases e))).trans hm2
      have own3 := own_moved (w' := w2.setCell ⟨tb, 2, none⟩ (.slice A' (n + 1) c')) hown' (fun b hb => by
        obtain ⟨cur, hc⟩ := own_cells hown' hb
        exact hother b (hnt hc (by intro c f e; cases e)))
      have on3 : Only (Mut tb mb T) w (w2.setCell ⟨tb, 2, none⟩ (.slice A' (n + 1) c')) := ((Only.of_below hg).trans (ho2.mono (fun k _ hk => .inr (.inr hk)))).setCell (.inl rfl) _
      have hfresh : ∀ b, (Value.slice A' (n + 1) c').ownBlock = some b → T.ownBlock = some b ∨ w.heap.size ≤ b := by
        intro b hb
        rcases hwh b hb with h' | h'
        · exact .inl h'
        · exact .inr (Nat.le_trans hg.size h')
      have e1 : (w2.setCell ⟨tb, 2, none⟩ (.slice A' (n + 1) c')).cell? ⟨tb, 1, none⟩ = some (.map (some mb)) := by rw [cell_of_heap tx3]; rfl
      obtain ⟨es', clock', hmu, he'⟩ := run_mapUpdate_word (P := Try.prog) Try.underlying192 Try.underlying22 hm3 HE.out h1.nodup off x
      have HE' := Lib.hid he'
      have HM3 := Lib.hid hm3
      have HF := Lib.hid hfresh
      have DOM := Lib.hid h1.dom
      have ND := Lib.hid h1.nodup
      have BS := Lib.hid h1.baseS
      have BT := Lib.hid h1.baseT
      have BM := Lib.hid h1.baseM
      clear h1 H1 HC HM c1 c2 he' hm3 hother hnt hm2 seg2 hfresh hnT hmT hown hown' ho2 hwh
      go_wp2
      go_end0
      have hlen : (pput σ.p off x).map (·.1) = σ.p.map (·.1) ++ [off] := by rw [pput_keys, hl]; rfl
      have hlen2 : (pput σ.p off x).length = n + 1 := by have := congrArg List.length hlen; simpa [HN.out] using this
      have hrep := rep_set (clock' := clock') tx3 seg3 HM3.out HE'.out (by rw [hlen, hlen2, u64s_append]; exact own3) (pput_nodup ND.out)
        (pput_dom DOM.out ⟨hc, ho, hx⟩) BT.out BM.out BS.out
      refine ⟨rfl, _, ⟨tb, mb, _, sb, bb, cap, cs, rfl, rfl, hrep⟩, on3.heapSet (.inr (.inl rfl)) _, fun b hb => ?_⟩
      rcases hb with hb | hb | hb
      · exact .inl (.inl hb)
      · exact .inl (.inr (.inl hb))
      · rcases HF.out b hb with h' | h'
        · exact .inl (.inr (.inr h'))
        · exact .inr h'
  · have hst : σ.store off x = σ := by unfold St.store; rw [if_neg hc]
    rw [hst]
    have hld := load_bad h.seg off ho hc
    go_enter Try.func82, Try.ntmps82
    go_wp2_with fail
    refine hld.mono ?_
    rintro e w1 ⟨rfl, rfl⟩
    clear c0 hld
    go_wp2
    (try simp only [Exit.inBlock, Exit.then])
    refine bodyPost_ret (results_none rfl _ _ _) rfl ?_
    exact ⟨rfl, _, ⟨tb, mb, T, sb, bb, cap, cs, rfl, rfl, h⟩, Only.refl _ _, fun b hb => .inl hb⟩
end Go.Proofs.Ck
