/- A row that a call hands out, as a law holds it. -/
import Derived.Test.YtpakfelekphbmaaAll
namespace Go.Proofs.Ck
open Go Go.RowKit

section
variable {base : Nat} {M0 : Nat → Prop} {w0 w w' : World} {v : Value} {σ : St} {f : Nat → Nat} {bx : List Bx} {K : World → (Nat → Prop) → Prop} {A : Option Addr} {n k : Nat} {xs : List Value}
theorem Ctx.addRow (h : Ctx base M0 w0 w v σ bx K) (hg : Grow w w') (hr : Row (fun b => w.heap.size ≤ b) w' A n k xs) : Ctx base M0 w0 w' v σ bx fun w X => Row (fun b => ¬ X b) w A n k xs ∧ K w X := by
  obtain ⟨hK, M, h1, h2, h3, h4⟩ := h
  have hn : Next M M w w' := Next.of_grow hg
  refine ⟨stable_row.and hK, M, h1.grow hg, h2.trans hn, h3.next hn, hr.mono fun b _ hb hx => ?_, hK _ _ _ _ (loose_next hn) h4⟩
  rcases hx with hx | hx
  · have := h1.lt b hx; omega
  · obtain ⟨x, hx2, rfl⟩ := List.mem_map.1 hx
    have := lt_of_heap (h3.at_ x hx2).1; omega
theorem Law.addRow (h : Law base M0 w0 w v f bx K) (hg : Grow w w') (hr : Row (fun b => w.heap.size ≤ b) w' A n k xs) : Law base M0 w0 w' v f bx fun w X => Row (fun b => ¬ X b) w A n k xs ∧ K w X := by
  obtain ⟨σ, h1, h2⟩ := h
  exact ⟨σ, h1.addRow hg hr, h2⟩
/-- A call that hands out a row of new memory. -/
theorem Law.rowOf {g : FuncId} {args : Array Value} {R : Ending → Option Addr → Nat → Prop} (h : Law base M0 w0 w v f bx K)
    (hc : Calls Try.prog g args w fun e w' => ∃ A c, R e A c ∧ Row (fun b => w.heap.size ≤ b) w' A n k xs ∧ Grow w w') :
    Calls Try.prog g args w fun e w' => ∃ A c, R e A c ∧ Law base M0 w0 w' v f bx fun w X => Row (fun b => ¬ X b) w A n k xs ∧ K w X :=
  hc.mono fun _ _ ⟨A, c, h1, h2, h3⟩ => ⟨A, c, h1, h.addRow h3 h2⟩
end

theorem get_of {f : Nat → Nat} {c what o x : Nat} (hc : c < 8) (ho : 64 + 416 * c + what = o) (h : f o = x) : getF f (c : Int) what = x := by
  unfold getF
  rw [if_pos (by omega), ← h, ← ho]
  rfl
theorem setF_of {f : Nat → Nat} {c what o x : Nat} (hc : c < 8) (ho : 64 + 416 * c + what = o) : setF f (c : Int) what x = upd f o x := by
  unfold setF
  rw [if_pos (by omega), ← ho]
  rfl
section
variable {base : Nat} {M0 : Nat → Prop} {w0 w w' : World} {v : Value} {f g : Nat → Nat} {bx : List Bx} {K : World → (Nat → Prop) → Prop}
theorem headIs (h : TxAny w v f) {c : Int} {x : Nat} (hx : getF f c 8 = x) :
    Calls Try.prog 102 #[v, .int .i64 c] w fun e w' => e = .returned (.int .u64 (x : Int)) ∧ Grow w w' := by
  have := head_any h c
  rwa [hx] at this
end

/-- A box that nobody turns. -/
def Lies (q : Nat) (cs : Array Value) (t : TypeId) (w : World) (X : Nat → Prop) : Prop := w.heap[q]? = some (.cells cs t (0, 0)) ∧ ¬ X q
theorem stable_lies {q : Nat} {cs : Array Value} {t : TypeId} : Stable (Lies q cs t) := fun w w' M M' hn hk =>
  ⟨hn.only.heap hk.1 hk.2, fun hm => by
    rcases hn.fresh q hm with h | h
    · exact hk.2 h
    · have := lt_of_heap hk.1; omega⟩
theorem Lies.cell {q : Nat} {cs : Array Value} {t : TypeId} {w : World} {X : Nat → Prop} (h : Lies q cs t w X) (i : Nat) : w.cell? ⟨q, i, none⟩ = cs[i]? := cell_of_heap h.1 (i := i)
theorem Lies.fresh {q : Nat} {cs : Array Value} {t : TypeId} {w : World} (h : w.heap[q]? = some (.cells cs t (0, 0))) : Lies q cs t w (fun b => w.heap.size ≤ b) := ⟨h, by have := lt_of_heap h; omega⟩

/-- The document's pair of lists, as a law holds it. -/
def RefS (rv : Value) (σ : St) (w : World) (X : Nat → Prop) : Prop :=
  ∃ (A : Option Addr) (c : Nat) (B : Option Addr) (d : Nat), rv = .agg #[.slice A σ.W.length c, .slice B σ.p.length d] ∧ Nums (fun b => ¬ X b) w A σ.W ∧ Puts (fun b => ¬ X b) w B σ.p ∧ (B = none → d = 0)
theorem stable_refS {rv : Value} {σ : St} : Stable (RefS rv σ) := by
  rintro w w' M M' hn ⟨A, c, B, d, h1, h2, h3, h4⟩
  exact ⟨A, c, B, d, h1, h2.past hn.only hn.fresh, h3.past hn.only hn.fresh, h4⟩
/-- What a law's own 'formed' answers, word for word. -/
def FormedS (w0 : World) (size : Nat) (A : Option Addr) (l : List (Nat × Nat)) (K0 : World → (Nat → Prop) → Prop) (e : Ending) (w' : World) : Prop :=
  ∃ (base : Nat) (p : Option Addr) (A1 : Option Addr) (n1 c1 : Nat) (B1 : Option Addr) (n2 d1 : Nat),
    e = .returned (.tuple #[.pointer p, .agg #[.slice A1 n1 c1, .slice B1 n2 d1]]) ∧
    Ctx base (fun _ => False) w0 w' (.pointer p) (fillS ⟨fmtW 600 size, []⟩ (l.take 60)) [] fun w X => RefS (.agg #[.slice A1 n1 c1, .slice B1 n2 d1]) (fillS ⟨fmtW 600 size, []⟩ (l.take 60)) w X ∧ ArgP A l w X ∧ K0 w X
theorem formed_S {g : FuncId} {args : Array Value} {w0 w : World} {size : Nat} {A : Option Addr} {l : List (Nat × Nat)} {K0 : World → (Nat → Prop) → Prop} (hg : Grow w0 w) (hl : Puts (fun b => b < w0.heap.size) w0 A l) (hK : Stable K0) (hk : K0 w (fun b => w.heap.size ≤ b))
    (h : Puts (fun b => b < w.heap.size) w A l → Calls Try.prog g args w fun e w' => ∃ base v rv M, e = .returned (.tuple #[v, rv]) ∧ Pair w' base v rv M (fillS ⟨fmtW 600 size, []⟩ (l.take 60)) ∧ w.heap.size ≤ base ∧ Grow w w') :
    Calls Try.prog g args w (FormedS w0 size A l K0) := by
  have h0 := hl.grow hg
  refine (h (h0.mono fun b _ hb => Nat.lt_of_lt_of_le hb hg.size)).mono ?_
  rintro e w' ⟨base, v, rv, M, rfl, hP, hb, hg2⟩
  have hbb := Nat.le_trans hg.size hb
  have hMb := hP.tx.base
  obtain ⟨A1, c1, B1, d1, hrv, h1, h2, h3⟩ := hP.ref
  obtain ⟨p, rfl⟩ := hP.tx.any.ptr
  subst hrv
  refine ⟨base, p, A1, _, c1, B1, _, d1, rfl, Ctx.of_pair hP hbb (hg.trans hg2) (stable_refS.and (stable_arg.and hK)) ⟨⟨A1, c1, B1, d1, rfl, h1, h2, h3⟩, ?_, ?_⟩⟩
  · exact (h0.grow hg2).mono fun b _ hb hm => by have := hMb b hm; omega
  · exact hK _ _ _ _ ⟨Only.of_below hg2, fun b hm => .inl (Nat.le_trans hb (hMb b hm))⟩ hk
section
variable {base : Nat} {M0 : Nat → Prop} {w0 w w' : World} {v : Value} {σ : St} {f : Nat → Nat} {bx : List Bx} {K L : World → (Nat → Prop) → Prop} {rv : Value}
theorem Ctx.less (h : Ctx base M0 w0 w v σ bx K) (hL : Stable L) (hl : ∀ w X, K w X → L w X) : Ctx base M0 w0 w v σ bx L := h.keep hL fun X _ hk => hl _ X hk
theorem Law.less (h : Law base M0 w0 w v f bx K) (hL : Stable L) (hl : ∀ w X, K w X → L w X) : Law base M0 w0 w v f bx L := h.keep hL fun X _ hk => hl _ X hk
theorem Ctx.law (h : Ctx base M0 w0 w v σ bx K) (hW : σ.W.length = 600) : Law base M0 w0 w v σ.load bx K := ⟨σ, h, hW, rfl⟩
end
end Go.Proofs.Ck
