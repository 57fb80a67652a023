/- Parts of the proofs of this seat's laws. -/
import Derived.Test.YtpakfelekphbmaaGTx
import Derived.Laws.ResultCell

namespace Go.Proofs.Ck
open Go Go.RowKit

/-- Words that are thought of, or nobody's. -/
def TxAny (w : World) (v : Value) (f : Nat → Nat) : Prop := (v = .pointer none ∧ f = fun _ => 0) ∨ ∃ base M σ, TxAt w base v M σ ∧ f = σ.load
theorem TxAny.grow {w w' : World} {v : Value} {f : Nat → Nat} (h : TxAny w v f) (hg : Grow w w') : TxAny w' v f := by
  rcases h with h | ⟨base, M, σ, h, e⟩
  · exact .inl h
  · exact .inr ⟨base, M, σ, h.grow hg, e⟩
theorem TxAt.any {w : World} {base : Nat} {v : Value} {M : Nat → Prop} {σ : St} (h : TxAt w base v M σ) : TxAny w v σ.load := .inr ⟨base, M, σ, h, rfl⟩
theorem load_txany {w : World} {v : Value} {f : Nat → Nat} (h : TxAny w v f) (off : Nat) (ho : off < 18446744073709551616) :
    Calls Try.prog 118 #[v, .int .u64 (off : Int)] w fun e w' => e = .returned (.int .u64 ((f off : Nat) : Int)) ∧ Grow w w' := by
  rcases h with ⟨rfl, rfl⟩ | ⟨base, M, σ, h, rfl⟩
  · exact (load_nil_tx w off).mono fun e w' ⟨h1, h2⟩ => ⟨h1, h2 ▸ Below.refl _ _⟩
  · exact load_call h off ho

end Go.Proofs.Ck

namespace Go.Proofs.Ck
open Go Go.RowKit

theorem word_ok (w : World) (c what : Nat) (hc : c < 8) (h8 : what % 8 = 0) (hw : what < 416) :
    Calls Try.prog 96 #[.int .i64 (c : Int), .int .u64 (what : Int)] w fun e w' => e = .returned (.tuple #[.int .u64 ((64 + 416 * c + what : Nat) : Int), .bool true]) ∧ w = w' := by
  have t0 : decide ((c : Int) < 0) = false := decide_eq_false (by omega)
  have t1 : decide ((8 : Int) ≤ c) = false := decide_eq_false (by omega)
  have t2 : ((what : Int) % 8 != 0) = false := by rw [← Bool.not_eq_true, bne_iff_ne]; omega
  have t3 : decide ((416 : Int) ≤ what) = false := decide_eq_false (by omega)
  have e2 : IntKind.u64.wrap (c : Int) = (c : Int) := by rw [IntKind.wrap_u64]; omega
  go_enter Try.func96, Try.ntmps96
  go_wp2
  go_ret2
  exact ⟨by simp, rfl⟩
theorem word_bad (w : World) (c : Int) (what : Nat) (h : ¬ (0 ≤ c ∧ c < 8 ∧ what % 8 = 0 ∧ what < 416)) :
    Calls Try.prog 96 #[.int .i64 c, .int .u64 (what : Int)] w fun e w' => e = .returned (.tuple #[.int .u64 0, .bool false]) ∧ w = w' := by
  by_cases h0 : c < 0
  · have t0 : decide (c < 0) = true := decide_eq_true h0
    go_enter Try.func96, Try.ntmps96
    go_wp2
    go_ret2
    exact ⟨rfl, rfl⟩
  · have t0 : decide (c < 0) = false := decide_eq_false h0
    by_cases h1 : 8 ≤ c
    · have t1 : decide (8 ≤ c) = true := decide_eq_true h1
      go_enter Try.func96, Try.ntmps96
      go_wp2
      go_ret2
      exact ⟨rfl, rfl⟩
    · have t1 : decide (8 ≤ c) = false := decide_eq_false h1
      by_cases h2 : what % 8 = 0
      · have t2 : ((what : Int) % 8 != 0) = false := by rw [← Bool.not_eq_true, bne_iff_ne]; omega
        have t3 : decide ((416 : Int) ≤ what) = true := decide_eq_true (by omega)
        go_enter Try.func96, Try.ntmps96
        go_wp2
        go_ret2
        exact ⟨rfl, rfl⟩
      · have t2 : ((what : Int) % 8 != 0) = true := by rw [bne_iff_ne]; omega
        go_enter Try.func96, Try.ntmps96
        go_wp2
        go_ret2
        exact ⟨rfl, rfl⟩

theorem get_ok {w : World} {v : Value} {f : Nat → Nat} (h : TxAny w v f) (c what : Nat) (hc : c < 8) (h8 : what % 8 = 0) (hw : what < 416) :
    Calls Try.prog 164 #[v, .int .i64 (c : Int), .int .u64 (what : Int)] w fun e w' => e = .returned (.int .u64 ((f (64 + 416 * c + what) : Nat) : Int)) ∧ Grow w w' := by
  have hw1 := word_ok w c what hc h8 hw
  have hl := load_txany h (64 + 416 * c + what) (by omega)
  generalize 64 + 416 * c + what = o at *
  generalize f o = x at *
  go_enter Try.func164, Try.ntmps164
  go_wp2_with fail
  refine hw1.mono ?_
  rintro e w' ⟨rfl, rfl⟩
  go_wp2_with fail
  refine hl.mono ?_
  rintro e w' ⟨rfl, hg⟩
  go_wp2
  go_ret
  exact ⟨rfl, hg⟩
theorem get_bad (w : World) (v : Value) (c : Int) (what : Nat) (h : ¬ (0 ≤ c ∧ c < 8 ∧ what % 8 = 0 ∧ what < 416)) :
    Calls Try.prog 164 #[v, .int .i64 c, .int .u64 (what : Int)] w fun e w' => e = .returned (.int .u64 0) ∧ Grow w w' := by
  have hw1 := word_bad w c what h
  go_enter Try.func164, Try.ntmps164
  go_wp2_with fail
  refine hw1.mono ?_
  rintro e w' ⟨rfl, rfl⟩
  go_wp2
  go_ret
  exact ⟨rfl, Below.refl _ _⟩
theorem set_ok {w : World} {base : Nat} {v : Value} {M : Nat → Prop} {σ : St} (h : TxAt w base v M σ) (c what x : Nat) (hc : c < 8) (h8 : what % 8 = 0) (hw : what < 416) (hx : x < 18446744073709551616) (hn : σ.p.length < 1000000) :
    Calls Try.prog 159 #[v, .int .i64 (c : Int), .int .u64 (what : Int), .int .u64 (x : Int)] w fun e w' => e = .returned (.int .i64 0) ∧ ∃ M', TxAt w' base v M' (σ.store (64 + 416 * c + what) x) ∧ Only M w w' ∧ ∀ b, M' b → M b ∨ w.heap.size ≤ b := by
  have hw1 := word_ok w c what hc h8 hw
  have hs := store_call h (64 + 416 * c + what) x (by omega) hx hn
  generalize 64 + 416 * c + what = o at *
  go_enter Try.func159, Try.ntmps159
  go_wp2_with fail
  refine hw1.mono ?_
  rintro e w' ⟨rfl, rfl⟩
  go_wp2_with fail
  refine hs.mono ?_
  rintro e w' ⟨rfl, hM⟩
  have HM := Lib.hid hM
  clear hM hs
  go_wp2
  go_ret
  exact ⟨rfl, HM.out⟩
end Go.Proofs.Ck

namespace Go.Proofs.Ck
open Go Go.RowKit

theorem TxAny.ptr {w : World} {v : Value} {f : Nat → Nat} (h : TxAny w v f) : ∃ p, v = .pointer p := by
  rcases h with ⟨h, _⟩ | ⟨base, M, σ, ⟨tb, mb, T, sb, bb, cap, cs, h, _⟩, _⟩
  · exact ⟨none, h⟩
  · exact ⟨_, h⟩

end Go.Proofs.Ck

namespace Go.Proofs.Ck
open Go Go.RowKit

theorem plook_append (p q : List (Nat × Nat)) (off : Nat) : plook (p ++ q) off = (plook p off).or (plook q off) := by
  induction p with
  | nil => simp [plook]
  | cons r p ih =>
    rw [List.cons_append, plook_cons, plook_cons, ih]
    split <;> simp
theorem plook_map (p : List (Nat × Nat)) (off v o : Nat) : plook (p.map (fun q => if q.1 = off then (off, v) else q)) o = if o = off then (if (plook p off).isSome then some v else none) else plook p o := by
  induction p with
  | nil => simp [plook]
  | cons q p ih =>
    rw [List.map_cons, plook_cons, plook_cons, plook_cons, ih]
    by_cases h1 : q.1 = off
    · by_cases h2 : o = off
      · subst h2; simp [h1]
      · have : off ≠ o := fun e => h2 e.symm
        have h3 : q.1 ≠ o := fun e => h2 (by omega)
        simp [h1, h2, this]
    · by_cases h2 : o = off
      · subst h2
        simp [h1]
      · simp [h1, h2]
theorem plook_pput (p : List (Nat × Nat)) (off v o : Nat) : plook (pput p off v) o = if o = off then some v else plook p o := by
  unfold pput
  by_cases hs : (plook p off).isSome
  · rw [if_pos hs, plook_map, hs]
    simp
  · rw [if_neg hs, plook_append]
    have hn : plook p off = none := by simpa using hs
    by_cases h : o = off
    · subst h
      rw [hn, if_pos rfl, plook_cons]
      simp
    · have : off ≠ o := fun e => h e.symm
      rw [if_neg h, plook_cons, if_neg this]
      simp [plook]
/-- A word may be stored there. -/
def St.has (σ : St) (off : Nat) : Prop := off % 8 = 0 ∧ off / 8 < σ.W.length
theorem load_store {σ : St} {off : Nat} (h : σ.has off) (v o : Nat) : (σ.store off v).load o = if o = off then v else σ.load o := by
  have e : σ.store off v = ⟨σ.W, pput σ.p off v⟩ := by unfold St.store; exact if_pos h
  rw [e]
  unfold St.load
  rw [plook_pput]
  by_cases ho : o = off
  · rw [if_pos ho, if_pos ho]; rfl
  · rw [if_neg ho, if_neg ho]; rfl
theorem fmt_zero (size i : Nat) (h0 : i ≠ 0) (h1 : i ≠ 1) (h2 : i ≠ 2) (h4 : i ≠ 4) (h5 : i ≠ 5) (h6 : i < 472) (hs : 3824 ≤ size) : (fmtW 600 size).getD i 0 = 0 := by
  unfold fmtW
  rw [List.getD_eq_getElem?_getD]
  rw [List.getElem?_set_ne (by omega), List.getElem?_set_ne (by omega), List.getElem?_set_ne (by omega), List.getElem?_set_ne (by omega), List.getElem?_set_ne (by omega), List.getElem?_set_ne (by omega), List.getElem?_set_ne (by omega), List.getElem?_replicate]
  split <;> rfl
/-- A formatted segment's words that are not its head's nor its heap's are 0. -/
theorem fmt_load (size off : Nat) (hs : 3824 ≤ size) (h : off = 24 ∨ 48 ≤ off) (h6 : off < 3776) : (⟨fmtW 600 size, []⟩ : St).load off = 0 := by
  unfold St.load St.old
  show (none : Option Nat).getD _ = 0
  rw [Option.getD_none]
  split
  · exact fmt_zero size (off / 8) (by omega) (by omega) (by omega) (by omega) (by omega) (by omega) hs
  · rfl
end Go.Proofs.Ck

namespace Go.Proofs.Ck
open Go Go.RowKit

/-- A call that turns blocks of M alone; behind it M' may be turned. -/
structure Next (M M' : Nat → Prop) (w w' : World) : Prop where
  only : Only M w w'
  fresh : ∀ b, M' b → M b ∨ w.heap.size ≤ b

theorem Next.of_grow {M : Nat → Prop} {w w' : World} (h : Grow w w') : Next M M w w' := ⟨Only.of_below h, fun _ h => .inl h⟩
theorem Next.trans {M N L : Nat → Prop} {a b c : World} (h : Next M N a b) (k : Next N L b c) : Next M L a c := by
  refine ⟨⟨k.only.os.trans h.only.os, k.only.tape.trans h.only.tape, k.only.output.trans h.only.output, Nat.le_trans h.only.size k.only.size, fun i hi hs => ?_⟩, fun i hi => ?_⟩
  · have hn : ¬ N i := fun hN => by
      rcases h.fresh i hN with h1 | h1
      · exact hs h1
      · omega
    exact (k.only.block i (Nat.lt_of_lt_of_le hi h.only.size) hn).trans (h.only.block i hi hs)
  · rcases k.fresh i hi with h1 | h1
    · exact h.fresh i h1
    · exact .inr (Nat.le_trans h.only.size h1)
theorem Next.trans' {M N S : Nat → Prop} {a b c : World} (h : Next M N a b) (k : Only S b c) {q : Nat} (hq : a.heap.size ≤ q) (hS : ∀ x, S x → x = q := by intro x hx; exact hx) : Next M N a c := by
  refine ⟨⟨k.os.trans h.only.os, k.tape.trans h.only.tape, k.output.trans h.only.output, Nat.le_trans h.only.size k.size, fun i hi hs => ?_⟩, fun i hi => h.fresh i hi⟩
  exact (k.block i (Nat.lt_of_lt_of_le hi h.only.size) (fun hx => by have := hS _ hx; omega)).trans (h.only.block i hi hs)
theorem Next.less {M N : Nat → Prop} {w : World} (h : ∀ b, N b → M b) : Next M N w w := ⟨Only.refl _ _, fun b hb => .inl (h b hb)⟩

/-- A fact that outlives whatever happens to blocks that it does not lean on. -/
def Stable (K : World → (Nat → Prop) → Prop) : Prop := ∀ w w' M M', Next M M' w w' → K w M → K w' M'
theorem Stable.and {K L : World → (Nat → Prop) → Prop} (h : Stable K) (k : Stable L) : Stable fun w M => K w M ∧ L w M :=
  fun w w' M M' hn hk => ⟨h w w' M M' hn hk.1, k w w' M M' hn hk.2⟩
theorem stable_true : Stable fun _ _ => True := fun _ _ _ _ _ _ => trivial
theorem stable_row {A : Option Addr} {n k : Nat} {xs : List Value} : Stable fun w M => Row (fun b => ¬ M b) w A n k xs :=
  fun _ _ _ _ hn hk => hk.past hn.only hn.fresh

/-- A box: where it lies, its cells, its type. -/
abbrev Bx := Nat × Array Value × TypeId

structure Boxes (base low : Nat) (w : World) (M : Nat → Prop) (bx : List Bx) : Prop where
  at_ : ∀ x ∈ bx, w.heap[x.1]? = some (.cells x.2.1 x.2.2 (0, 0)) ∧ ¬ M x.1 ∧ base ≤ x.1 ∧ low ≤ x.1
  nodup : (bx.map (·.1)).Nodup

/-- The blocks that may be turned, the boxes among them. -/
def Loose (M : Nat → Prop) (bx : List Bx) (b : Nat) : Prop := M b ∨ b ∈ bx.map (·.1)

def Ctx (base : Nat) (M0 : Nat → Prop) (w0 w : World) (v : Value) (σ : St) (bx : List Bx) (K : World → (Nat → Prop) → Prop) : Prop :=
  Stable K ∧ ∃ M, TxAt w base v M σ ∧ Next M0 M w0 w ∧ Boxes base w0.heap.size w M bx ∧ K w (Loose M bx)

theorem Boxes.next {base low : Nat} {w w' : World} {M M' : Nat → Prop} {bx : List Bx} (h : Boxes base low w M bx) (hn : Next M M' w w') : Boxes base low w' M' bx := by
  refine ⟨fun x hx => ?_, h.nodup⟩
  obtain ⟨h1, h2, h3, h4⟩ := h.at_ x hx
  refine ⟨hn.only.heap h1 h2, fun hm => ?_, h3, h4⟩
  rcases hn.fresh _ hm with h5 | h5
  · exact h2 h5
  · have := lt_of_heap h1; omega
theorem loose_next {w w' : World} {M M' : Nat → Prop} {bx : List Bx} (hn : Next M M' w w') : Next (Loose M bx) (Loose M' bx) w w' := by
  refine ⟨hn.only.mono fun k _ hk => .inl hk, fun b hb => ?_⟩
  rcases hb with hb | hb
  · rcases hn.fresh b hb with h1 | h1
    · exact .inl (.inl h1)
    · exact .inr h1
  · exact .inl (.inr hb)

section
variable {base : Nat} {M0 : Nat → Prop} {w0 w w' : World} {v : Value} {σ σ' : St} {bx : List Bx} {K L : World → (Nat → Prop) → Prop}

theorem Ctx.grow (h : Ctx base M0 w0 w v σ bx K) (hg : Grow w w') : Ctx base M0 w0 w' v σ bx K := by
  obtain ⟨hK, M, h1, h2, h3, h4⟩ := h
  have hn : Next M M w w' := Next.of_grow hg
  exact ⟨hK, M, h1.grow hg, h2.trans hn, h3.next hn, hK _ _ _ _ (loose_next hn) h4⟩
theorem Ctx.drew (h : Ctx base M0 w0 w v σ bx K) : Ctx base M0 w0 w.drew v σ bx K := h.grow (grow_drew w)
theorem Ctx.tx (h : Ctx base M0 w0 w v σ bx K) : ∃ M, TxAt w base v M σ := by obtain ⟨_, M, h1, _⟩ := h; exact ⟨M, h1⟩
theorem Ctx.any (h : Ctx base M0 w0 w v σ bx K) : TxAny w v σ.load := by obtain ⟨M, h1⟩ := h.tx; exact h1.any
theorem Ctx.box (h : Ctx base M0 w0 w v σ bx K) {x : Bx} (hx : x ∈ bx) : w.heap[x.1]? = some (.cells x.2.1 x.2.2 (0, 0)) := by
  obtain ⟨_, M, _, _, h3, _⟩ := h
  exact (h3.at_ x hx).1
theorem Ctx.cell (h : Ctx base M0 w0 w v σ bx K) {q : Nat} {cs : Array Value} {t : TypeId} (hx : (q, cs, t) ∈ bx) (i : Nat) : w.cell? ⟨q, i, none⟩ = cs[i]? := cell_of_heap (h.box hx) (i := i)
theorem Ctx.frozen (h : Ctx base M0 w0 w v σ bx K) {q : Nat} {cs : Array Value} {t : TypeId} (hx : (q, cs, t) ∈ bx) (i : Nat) : w.frozen? ⟨q, i, none⟩ = false := frozen_of_heap (h.box hx) i
theorem Ctx.know (h : Ctx base M0 w0 w v σ bx K) : ∃ X, K w X := by obtain ⟨_, M, _, _, _, h4⟩ := h; exact ⟨_, h4⟩
theorem Ctx.keep (h : Ctx base M0 w0 w v σ bx K) (hL : Stable L) (hl : ∀ X, (∀ b, X b → (M0 b ∨ w0.heap.size ≤ b)) → K w X → L w X) : Ctx base M0 w0 w v σ bx L := by
  obtain ⟨_, M, h1, h2, h3, h4⟩ := h
  refine ⟨hL, M, h1, h2, h3, hl _ (fun b hb => ?_) h4⟩
  rcases hb with hb | hb
  · exact h2.fresh b hb
  · obtain ⟨x, hx, rfl⟩ := List.mem_map.1 hb
    exact .inr (h3.at_ x hx).2.2.2
theorem Ctx.done (h : Ctx base (fun _ => False) w0 w v σ bx K) : Grow w0 w := by
  obtain ⟨_, M, _, h2, _⟩ := h
  exact h2.only.below (Nat.le_refl _) (fun k hk => hk.elim)

theorem Ctx.alloc (h : Ctx base M0 w0 w v σ bx K) (cs : Array Value) (t : TypeId) : Ctx base M0 w0 (w.alloc (.cells cs t)) v σ ((w.heap.size, cs, t) :: bx) K := by
  have hg : Grow w (w.alloc (.cells cs t)) := (Below.refl _ _).alloc (Nat.le_refl _) _
  obtain ⟨hK, M, h1, h2, h3, h4⟩ := h
  have hn : Next M M w (w.alloc (.cells cs t)) := Next.of_grow hg
  have hb := h3.next hn
  have hnew := World.alloc_heap_new w (.cells cs t)
  have hbase : base ≤ w.heap.size := by
    obtain ⟨tb, mb, T, sb, bb, cap, cs', rfl, rfl, h5⟩ := h1
    exact Nat.le_trans h5.baseT (Nat.le_of_lt (lt_of_heap h5.tx))
  refine ⟨hK, M, h1.grow hg, h2.trans hn, ⟨fun x hx => ?_, ?_⟩, hK _ _ _ _ ?_ h4⟩
  · rcases List.mem_cons.1 hx with rfl | hx
    · exact ⟨hnew, fun hm => by have := h1.lt _ hm; omega, hbase, h2.only.size⟩
    · exact hb.at_ x hx
  · rw [List.map_cons, List.nodup_cons]
    refine ⟨fun hm => ?_, hb.nodup⟩
    obtain ⟨x, hx, he⟩ := List.mem_map.1 hm
    have := lt_of_heap (h3.at_ x hx).1
    simp only at he
    omega
  · refine ⟨Only.of_below hg, fun b hb => ?_⟩
    rcases hb with hb | hb
    · exact .inl (.inl hb)
    · rw [List.map_cons, List.mem_cons] at hb
      rcases hb with rfl | hb
      · exact .inr (Nat.le_refl _)
      · exact .inl (.inr hb)

/-- A box's cell is written: the first box's. -/
theorem Ctx.set {q : Nat} {cs : Array Value} {t : TypeId} (h : Ctx base M0 w0 w v σ ((q, cs, t) :: bx) K) (i : Nat) (u : Value) : Ctx base M0 w0 (w.setCell ⟨q, i, none⟩ u) v σ ((q, cs.setIfInBounds i u, t) :: bx) K := by
  obtain ⟨hK, M, h1, h2, h3, h4⟩ := h
  obtain ⟨g1, g2, g3, g4⟩ := h3.at_ _ (List.mem_cons_self ..)
  have ho : Only (fun b => b = q) w (w.setCell ⟨q, i, none⟩ u) := Only.setCell (S := fun b => b = q) (p := ⟨q, i, none⟩) (Only.refl _ w) rfl u
  have hnd := h3.nodup
  rw [List.map_cons, List.nodup_cons] at hnd
  refine ⟨hK, M, h1.other ho (fun b hb => ?_), h2.trans' ho g4, ⟨fun x hx => ?_, ?_⟩, hK _ _ _ _ ?_ h4⟩
  · subst hb; exact ⟨g2, g3⟩
  · rcases List.mem_cons.1 hx with rfl | hx
    · exact ⟨heap_setCell_row g1 u, g2, g3, g4⟩
    · obtain ⟨k1, k2, k3, k4⟩ := h3.at_ x (List.mem_cons_of_mem _ hx)
      have hm : x.1 ∈ bx.map (·.1) := List.mem_map_of_mem hx
      exact ⟨ho.heap k1 (fun e => hnd.1 (e ▸ hm)), k2, k3, k4⟩
  · rw [List.map_cons, List.nodup_cons]; exact hnd
  · refine ⟨ho.mono fun k _ hk => .inr (by subst hk; simp), fun b hb => .inl hb⟩

/-- Other boxes, or in another turn. -/
theorem Ctx.take (h : Ctx base M0 w0 w v σ bx K) {bx' : List Bx} (hs : ∀ x ∈ bx', x ∈ bx) (hn : (bx.map (·.1)).Nodup → (bx'.map (·.1)).Nodup) : Ctx base M0 w0 w v σ bx' K := by
  obtain ⟨hK, M, h1, h2, h3, h4⟩ := h
  refine ⟨hK, M, h1, h2, ⟨fun x hx => h3.at_ x (hs x hx), hn h3.nodup⟩, hK _ _ _ _ (Next.less fun b hb => ?_) h4⟩
  rcases hb with hb | hb
  · exact .inl hb
  · obtain ⟨x, hx, rfl⟩ := List.mem_map.1 hb
    exact .inr (List.mem_map_of_mem (hs x hx))
theorem Ctx.drop2 {a b : Bx} (h : Ctx base M0 w0 w v σ (a :: b :: bx) K) : Ctx base M0 w0 w v σ (a :: bx) K :=
  h.take (fun x hx => by simp only [List.mem_cons] at hx ⊢; rcases hx with h | h <;> simp [h]) (fun hn => by simp only [List.map_cons, List.nodup_cons, List.mem_cons, not_or] at hn ⊢; exact ⟨hn.1.2, hn.2.2⟩)
theorem Ctx.swap {a b : Bx} (h : Ctx base M0 w0 w v σ (a :: b :: bx) K) : Ctx base M0 w0 w v σ (b :: a :: bx) K :=
  h.take (fun x hx => by simp only [List.mem_cons] at hx ⊢; rcases hx with h | h | h <;> simp [h]) (fun hn => by
    simp only [List.map_cons, List.nodup_cons, List.mem_cons, not_or] at hn ⊢
    exact ⟨⟨fun e => hn.1.1 e.symm, hn.2.1⟩, hn.1.2, hn.2.2⟩)
theorem Ctx.bare (h : Ctx base M0 w0 w v σ bx K) : Ctx base M0 w0 w v σ [] K := h.take (fun x hx => by cases hx) (fun _ => List.nodup_nil)

/-- A call that turns what is thought of. -/
theorem Ctx.write {f : FuncId} {args : Array Value} {r : Ending} (h : Ctx base M0 w0 w v σ bx K)
    (hc : ∀ M, TxAt w base v M σ → Calls Try.prog f args w fun e w' => e = r ∧ ∃ M', TxAt w' base v M' σ' ∧ Only M w w' ∧ ∀ b, M' b → M b ∨ w.heap.size ≤ b) :
    Calls Try.prog f args w fun e w' => e = r ∧ Ctx base M0 w0 w' v σ' bx K := by
  obtain ⟨hK, M, h1, h2, h3, h4⟩ := h
  refine (hc M h1).mono ?_
  rintro e w' ⟨rfl, M', k1, k2, k3⟩
  have hn : Next M M' w w' := ⟨k2, k3⟩
  exact ⟨rfl, hK, M', k1, h2.trans hn, h3.next hn, hK _ _ _ _ (loose_next hn) h4⟩
end
/-- The pair that a law's own 'formed' hands out. -/
theorem Ctx.of_pair {w0 w : World} {base : Nat} {v rv : Value} {M : Nat → Prop} {σ : St} {K : World → (Nat → Prop) → Prop} (h : Pair w base v rv M σ) (hb : w0.heap.size ≤ base) (hg : Grow w0 w) (hK : Stable K) (hk : K w M) :
    Ctx base (fun _ => False) w0 w v σ [] K := by
  have hbs := h.tx.base
  exact ⟨hK, M, h.tx, ⟨Only.of_below hg, fun b hm => .inr (Nat.le_trans hb (hbs b hm))⟩, ⟨fun x hx => (by cases hx), List.nodup_nil⟩, hK _ _ _ _ (Next.less fun b hb => by
    rcases hb with hb | hb
    · exact hb
    · cases hb) hk⟩
end Go.Proofs.Ck

namespace Go.Proofs.Ck
open Go Go.RowKit

theorem nodup_lt_length : ∀ (n : Nat) (l : List Nat), l.Nodup → (∀ x ∈ l, x < n) → l.length ≤ n
  | 0, [], _, _ => Nat.le_refl _
  | 0, x :: _, _, h => absurd (h x (by simp)) (by omega)
  | n + 1, l, hn, h => by
    have h1 := nodup_lt_length n (l.filter (· != n)) (hn.filter _) (fun x hx => by
      rw [List.mem_filter] at hx
      have := h x hx.1
      have := hx.2
      simp at this
      omega)
    have h2 : (l.filter (· == n)).length ≤ 1 := by
      rw [← List.count_eq_length_filter]
      exact List.nodup_iff_count.1 hn n
    have h3 := List.length_eq_countP_add_countP (l := l) (· == n)
    rw [List.countP_eq_length_filter, List.countP_eq_length_filter] at h3
    have h4 : l.filter (fun x => decide ¬(x == n) = true) = l.filter (· != n) := List.filter_congr fun x _ => by cases h : (x == n) <;> simp [h, bne]
    rw [h4] at h3
    omega

theorem puts_few {w : World} {base : Nat} {v : Value} {M : Nat → Prop} {σ : St} (h : TxAt w base v M σ) : σ.p.length ≤ σ.W.length := by
  obtain ⟨tb, mb, T, sb, bb, cap, cs, rfl, rfl, h⟩ := h
  have hn : ((σ.p.map (·.1)).map (· / 8)).Nodup := by
    rw [List.Nodup, List.pairwise_map]
    refine List.Pairwise.imp_of_mem ?_ h.nodup
    intro a b ha hb hab e
    obtain ⟨p, hp, rfl⟩ := List.mem_map.1 ha
    obtain ⟨q, hq, rfl⟩ := List.mem_map.1 hb
    have h1 := (h.dom p hp).1.1
    have h2 := (h.dom q hq).1.1
    omega
  have := nodup_lt_length σ.W.length _ hn (fun x hx => by
    obtain ⟨y, hy, rfl⟩ := List.mem_map.1 hx
    obtain ⟨q, hq, rfl⟩ := List.mem_map.1 hy
    exact (h.dom q hq).1.2)
  simpa using this

/-- What is loaded, with one word otherwise. -/
def upd (f : Nat → Nat) (a x : Nat) (o : Nat) : Nat := if o = a then x else f o
theorem upd_same (f : Nat → Nat) (a x : Nat) : upd f a x a = x := if_pos rfl
theorem upd_ne {f : Nat → Nat} {a x o : Nat} (h : o ≠ a) : upd f a x o = f o := if_neg h
/-- A word's offset in a segment of 4800 bytes. -/
def inSeg (off : Nat) : Prop := off % 8 = 0 ∧ off < 4800
instance (off : Nat) : Decidable (inSeg off) := inferInstanceAs (Decidable (_ ∧ _))
/-- By what is loaded. -/
def Law (base : Nat) (M0 : Nat → Prop) (w0 w : World) (v : Value) (f : Nat → Nat) (bx : List Bx) (K : World → (Nat → Prop) → Prop) : Prop :=
  ∃ σ, Ctx base M0 w0 w v σ bx K ∧ σ.W.length = 600 ∧ σ.load = f

section
variable {base : Nat} {M0 : Nat → Prop} {w0 w w' : World} {v : Value} {f : Nat → Nat} {bx : List Bx} {K L : World → (Nat → Prop) → Prop}
theorem Law.grow (h : Law base M0 w0 w v f bx K) (hg : Grow w w') : Law base M0 w0 w' v f bx K := by obtain ⟨σ, h1, h2⟩ := h; exact ⟨σ, h1.grow hg, h2⟩
theorem Law.drew (h : Law base M0 w0 w v f bx K) : Law base M0 w0 w.drew v f bx K := h.grow (grow_drew w)
theorem Law.any (h : Law base M0 w0 w v f bx K) : TxAny w v f := by obtain ⟨σ, h1, _, rfl⟩ := h; exact h1.any
theorem Law.ptr (h : Law base M0 w0 w v f bx K) : ∃ p, v = .pointer p := h.any.ptr
theorem Law.cell (h : Law base M0 w0 w v f bx K) {q : Nat} {cs : Array Value} {t : TypeId} (hx : (q, cs, t) ∈ bx) (i : Nat) : w.cell? ⟨q, i, none⟩ = cs[i]? := by obtain ⟨σ, h1, _⟩ := h; exact h1.cell hx i
theorem Law.frozen (h : Law base M0 w0 w v f bx K) {q : Nat} {cs : Array Value} {t : TypeId} (hx : (q, cs, t) ∈ bx) (i : Nat) : w.frozen? ⟨q, i, none⟩ = false := by obtain ⟨σ, h1, _⟩ := h; exact h1.frozen hx i
theorem Law.box (h : Law base M0 w0 w v f bx K) {x : Bx} (hx : x ∈ bx) : w.heap[x.1]? = some (.cells x.2.1 x.2.2 (0, 0)) := by obtain ⟨σ, h1, _⟩ := h; exact h1.box hx
theorem Law.know (h : Law base M0 w0 w v f bx K) : ∃ X, K w X := by obtain ⟨σ, h1, _⟩ := h; exact h1.know
theorem Law.keep (h : Law base M0 w0 w v f bx K) (hL : Stable L) (hl : ∀ X, (∀ b, X b → (M0 b ∨ w0.heap.size ≤ b)) → K w X → L w X) : Law base M0 w0 w v f bx L := by obtain ⟨σ, h1, h2⟩ := h; exact ⟨σ, h1.keep hL hl, h2⟩
theorem Law.done (h : Law base (fun _ => False) w0 w v f bx K) : Grow w0 w := by obtain ⟨σ, h1, _⟩ := h; exact h1.done
theorem Law.alloc (h : Law base M0 w0 w v f bx K) (cs : Array Value) (t : TypeId) : Law base M0 w0 (w.alloc (.cells cs t)) v f ((w.heap.size, cs, t) :: bx) K := by obtain ⟨σ, h1, h2⟩ := h; exact ⟨σ, h1.alloc cs t, h2⟩
theorem Law.set {q : Nat} {cs : Array Value} {t : TypeId} (h : Law base M0 w0 w v f ((q, cs, t) :: bx) K) (i : Nat) (u : Value) : Law base M0 w0 (w.setCell ⟨q, i, none⟩ u) v f ((q, cs.setIfInBounds i u, t) :: bx) K := by obtain ⟨σ, h1, h2⟩ := h; exact ⟨σ, h1.set i u, h2⟩
theorem Law.swap {a b : Bx} (h : Law base M0 w0 w v f (a :: b :: bx) K) : Law base M0 w0 w v f (b :: a :: bx) K := by obtain ⟨σ, h1, h2⟩ := h; exact ⟨σ, h1.swap, h2⟩
theorem Law.bare (h : Law base M0 w0 w v f bx K) : Law base M0 w0 w v f [] K := by obtain ⟨σ, h1, h2⟩ := h; exact ⟨σ, h1.bare, h2⟩
theorem Law.read {g : FuncId} {args : Array Value} {R : Ending → World → Prop} (h : Law base M0 w0 w v f bx K) (hc : Calls Try.prog g args w fun e w' => R e w' ∧ Grow w w') :
    Calls Try.prog g args w fun e w' => R e w' ∧ Law base M0 w0 w' v f bx K :=
  hc.mono fun _ _ ⟨h1, h2⟩ => ⟨h1, h.grow h2⟩

/-- A call that stores one word. -/
theorem Law.write {g : FuncId} {args : Array Value} {r : Ending} {a x : Nat} (h : Law base M0 w0 w v f bx K) (ha : inSeg a)
    (hc : ∀ M σ, TxAt w base v M σ → σ.p.length < 1000000 → Calls Try.prog g args w fun e w' => e = r ∧ ∃ M', TxAt w' base v M' (σ.store a x) ∧ Only M w w' ∧ ∀ b, M' b → M b ∨ w.heap.size ≤ b) :
    Calls Try.prog g args w fun e w' => e = r ∧ Law base M0 w0 w' v (upd f a x) bx K := by
  obtain ⟨σ, h1, h2, rfl⟩ := h
  refine (h1.write fun M hM => hc M σ hM (by have := puts_few hM; omega)).mono ?_
  rintro e w' ⟨rfl, h3⟩
  refine ⟨rfl, _, h3, by rw [store_W]; exact h2, ?_⟩
  funext o
  exact load_store ⟨ha.1, by rw [h2]; have := ha.2; omega⟩ x o
theorem Law.store (h : Law base M0 w0 w v f bx K) (a x : Nat) (ha : inSeg a) (hx : x < 18446744073709551616) :
    Calls Try.prog 82 #[v, .int .u64 (a : Int), .int .u64 (x : Int)] w fun e w' => e = .returned (.tuple #[]) ∧ Law base M0 w0 w' v (upd f a x) bx K :=
  h.write ha fun _ _ hM hn => store_call hM a x (by have := ha.2; omega) hx hn
theorem Law.load (h : Law base M0 w0 w v f bx K) (off : Nat) (ho : off < 18446744073709551616) :
    Calls Try.prog 118 #[v, .int .u64 (off : Int)] w fun e w' => e = .returned (.int .u64 ((f off : Nat) : Int)) ∧ Law base M0 w0 w' v f bx K := h.read (load_txany h.any off ho)
end

/-- The document's, by what is loaded. -/
def RefF (rv : Value) (f : Nat → Nat) (w : World) (X : Nat → Prop) : Prop :=
  ∃ (σ : St) (A : Option Addr) (c : Nat) (B : Option Addr) (d : Nat), rv = .agg #[.slice A σ.W.length c, .slice B σ.p.length d] ∧ Nums (fun b => ¬ X b) w A σ.W ∧ Puts (fun b => ¬ X b) w B σ.p ∧ (B = none → d = 0) ∧
    σ.W.length = 600 ∧ σ.p.length ≤ 600 ∧ (σ.p.map (·.1)).Nodup ∧ σ.load = f
theorem stable_ref {rv : Value} {f : Nat → Nat} : Stable (RefF rv f) := by
  rintro w w' M M' hn ⟨σ, A, c, B, d, h1, h2, h3, h4⟩
  exact ⟨σ, A, c, B, d, h1, h2.past hn.only hn.fresh, h3.past hn.only hn.fresh, h4⟩
/-- A list of words that came in. -/
def ArgP (A : Option Addr) (l : List (Nat × Nat)) (w : World) (X : Nat → Prop) : Prop := Puts (fun b => ¬ X b) w A l
theorem stable_arg {A : Option Addr} {l : List (Nat × Nat)} : Stable (ArgP A l) := stable_row

end Go.Proofs.Ck

namespace Go.Proofs.Ck
open Go Go.RowKit

/-- A word of a client's record; 0 of nobody. -/
def getF (f : Nat → Nat) (c : Int) (what : Nat) : Nat := if 0 ≤ c ∧ c < 8 then f (64 + 416 * c.toNat + what) else 0
/-- The same, with that word otherwise. -/
def setF (f : Nat → Nat) (c : Int) (what x : Nat) : Nat → Nat := if 0 ≤ c ∧ c < 8 then upd f (64 + 416 * c.toNat + what) x else f

section
variable {base : Nat} {M0 : Nat → Prop} {w0 w w' : World} {v : Value} {f : Nat → Nat} {bx : List Bx} {K : World → (Nat → Prop) → Prop}

theorem get_any (h : TxAny w v f) (c : Int) (what : Nat) (h8 : what % 8 = 0) (hw : what < 416) :
    Calls Try.prog 164 #[v, .int .i64 c, .int .u64 (what : Int)] w fun e w' => e = .returned (.int .u64 ((getF f c what : Nat) : Int)) ∧ Grow w w' := by
  unfold getF
  by_cases hc : 0 ≤ c ∧ c < 8
  · rw [if_pos hc]
    obtain ⟨C, rfl⟩ := Int.eq_ofNat_of_zero_le hc.1
    exact get_ok h C what (by omega) h8 hw
  · rw [if_neg hc]
    exact get_bad w v c what (fun hh => hc ⟨hh.1, hh.2.1⟩)
theorem head_any (h : TxAny w v f) (c : Int) :
    Calls Try.prog 102 #[v, .int .i64 c] w fun e w' => e = .returned (.int .u64 ((getF f c 8 : Nat) : Int)) ∧ Grow w w' := by
  have hl := get_any h c 8 rfl (by omega)
  generalize getF f c 8 = x at *
  go_enter Try.func102, Try.ntmps102
  go_wp2_with fail
  refine hl.mono ?_
  rintro e w' ⟨rfl, hg⟩
  go_wp2
  go_ret
  exact ⟨rfl, hg⟩
theorem set_bad (w : World) (v : Value) (c : Int) (what x : Nat) (hc : ¬ (0 ≤ c ∧ c < 8)) :
    Calls Try.prog 159 #[v, .int .i64 c, .int .u64 (what : Int), .int .u64 (x : Int)] w fun e w' => e = .returned (.int .i64 1) ∧ Grow w w' := by
  have hw1 := word_bad w c what (fun hh => hc ⟨hh.1, hh.2.1⟩)
  go_enter Try.func159, Try.ntmps159
  go_wp2_with fail
  refine hw1.mono ?_
  rintro e w' ⟨rfl, rfl⟩
  go_wp2
  go_ret
  exact ⟨rfl, Below.refl _ _⟩
/-- What setting tells. -/
def setE (c : Int) : Nat := if 0 ≤ c ∧ c < 8 then 0 else 1
theorem Law.setw (h : Law base M0 w0 w v f bx K) (c : Int) (what x : Nat) (h8 : what % 8 = 0) (hw : what < 416) (hx : x < 18446744073709551616) :
    Calls Try.prog 159 #[v, .int .i64 c, .int .u64 (what : Int), .int .u64 (x : Int)] w fun e w' => e = .returned (.int .i64 ((setE c : Nat) : Int)) ∧ Law base M0 w0 w' v (setF f c what x) bx K := by
  unfold setE setF
  by_cases hc : 0 ≤ c ∧ c < 8
  · rw [if_pos hc, if_pos hc]
    obtain ⟨C, rfl⟩ := Int.eq_ofNat_of_zero_le hc.1
    exact h.write (r := .returned (.int .i64 0)) ⟨by omega, by omega⟩ fun _ _ hM hn => set_ok hM C what x (by omega) h8 hw hx hn
  · rw [if_neg hc, if_neg hc]
    exact h.read (set_bad w v c what x hc)
theorem Law.point (h : Law base M0 w0 w v f bx K) (c : Int) (x : Nat) (hx : x < 18446744073709551616) :
    Calls Try.prog 104 #[v, .int .i64 c, .int .u64 (x : Int)] w fun e w' => e = .returned (.tuple #[]) ∧ Law base M0 w0 w' v (setF f c 8 x) bx K := by
  have hs := h.setw c 8 x rfl (by omega) hx
  generalize setF f c 8 x = g at *
  generalize setE c = E at *
  go_enter Try.func104, Try.ntmps104
  go_wp2_with fail
  refine hs.mono ?_
  rintro e w1 ⟨rfl, L1⟩
  clear hs h
  go_wp2
  go_end0
  exact ⟨rfl, L1⟩
end
end Go.Proofs.Ck
