/- The directory's laws: names that come and go. -/
import Derived.Test.YtpakfelekphbmaaAwake13
import Derived.Test.YtpakfelekphbmaaClientPlays
namespace Go.Proofs.Ck
open Go Go.RowKit

/-- Deeds, cell by cell. -/
def ddeeds (l : List Dd) : List Value := l.flatMap fun d => [.bool d.1, .string d.2.1, .int .u64 (d.2.2 : Int)]
theorem ddeeds_length (l : List Dd) : (ddeeds l).length = l.length * 3 := by
  induction l with
  | nil => rfl
  | cons d l ih =>
    have e : ddeeds (d :: l) = .bool d.1 :: .string d.2.1 :: .int .u64 (d.2.2 : Int) :: ddeeds l := rfl
    rw [e]
    simp only [List.length_cons, ih]
    omega
theorem ddeeds_get {l : List Dd} {i : Nat} {d : Dd} (h : l[i]? = some d) : (ddeeds l)[i * 3]? = some (.bool d.1) ∧ (ddeeds l)[i * 3 + 1]? = some (.string d.2.1) ∧ (ddeeds l)[i * 3 + 2]? = some (.int .u64 (d.2.2 : Int)) := by
  induction l generalizing i with
  | nil => simp at h
  | cons e l ih =>
    have he : ddeeds (e :: l) = .bool e.1 :: .string e.2.1 :: .int .u64 (e.2.2 : Int) :: ddeeds l := rfl
    cases i with
    | zero =>
      simp only [List.getElem?_cons_zero, Option.some.injEq] at h
      subst h
      exact ⟨rfl, rfl, rfl⟩
    | succ i =>
      rw [he, show (i + 1) * 3 = i * 3 + 1 + 1 + 1 by omega]
      simp only [List.getElem?_cons_succ] at h ⊢
      exact ih h

section
variable {base : Nat} {M0 : Nat → Prop} {w0 w w' : World} {v rv : Value} {σ τ : St} {bx : List Bx} {K L : World → (Nat → Prop) → Prop}
theorem Ctx.rdrop (h : Ctx base M0 w0 w v σ bx fun w X => RefS rv τ w X ∧ K w X) (hK : Stable K) (hf : Fine τ) (s : ByteArray) (hs : s.size ≤ 100) :
    Calls Try.prog 174 #[rv, .string s] w fun e w' => ∃ rv', e = .returned (.tuple #[rv', .bool (findB τ.load s)]) ∧ Ctx base M0 w0 w' v σ bx fun w X => RefS rv' (dropS τ s) w X ∧ K w X :=
  h.step (L := fun rv' w X => RefS rv' (dropS τ s) w X ∧ K w X) (fun _ => stable_refS.and hK) fun _ hX hk => (rdropS hk.1 hX hf s hs).mono fun _ _ ⟨rv', h1, h2, h3⟩ => ⟨rv', h1, ⟨h2, hK _ _ _ _ (Next.of_grow h3) hk.2⟩, h3⟩
theorem Ctx.rput (h : Ctx base M0 w0 w v σ bx fun w X => RefS rv τ w X ∧ K w X) (hK : Stable K) (hf : FineS τ) (s : ByteArray) (hs : s.size ≤ 100) (off : Nat) :
    Calls Try.prog 175 #[rv, .string s, .int .u64 (off : Int)] w fun e w' => ∃ rv', e = .returned (.tuple #[rv', .int .i64 (putE τ.load s off : Int)]) ∧ Ctx base M0 w0 w' v σ bx fun w X => RefS rv' (putS τ s off) w X ∧ K w X :=
  h.step (L := fun rv' w X => RefS rv' (putS τ s off) w X ∧ K w X) (fun _ => stable_refS.and hK) fun _ hX hk => (rputS hk.1 hX hf s hs off).mono fun _ _ ⟨rv', h1, h2, h3⟩ => ⟨rv', h1, ⟨h2, hK _ _ _ _ (Next.of_grow h3) hk.2⟩, h3⟩
/-- What holds of other blocks too. -/
def Plus (q : Nat) (K : World → (Nat → Prop) → Prop) (w : World) (X : Nat → Prop) : Prop := K w fun b => X b ∨ b = q
theorem Next.plus {M M' : Nat → Prop} {w w' : World} (h : Next M M' w w') (q : Nat) : Next (fun b => M b ∨ b = q) (fun b => M' b ∨ b = q) w w' :=
  ⟨h.only.mono fun _ _ hb => .inl hb, fun b hb => by
    rcases hb with hb | hb
    · rcases h.fresh b hb with h1 | h1
      · exact .inl (.inl h1)
      · exact .inr h1
    · exact .inl (.inr hb)⟩
theorem stable_plus (q : Nat) (hK : Stable K) : Stable (Plus q K) := fun _ _ _ _ hn hk => hK _ _ _ _ (hn.plus q) hk
theorem Stable.less (hK : Stable K) {w : World} {X Y : Nat → Prop} (h : K w X) (hs : ∀ b, Y b → X b) : K w Y := hK _ _ _ _ (Next.less hs) h
/-- A box that was made ahead of the words, filled. -/
theorem Ctx.fill {q : Nat} {u0 u1 : Value} (h : Ctx base M0 w0 w v σ bx fun w X => Lies q #[u0, u1] 67 w X ∧ Plus q K w X) (hK : Stable K) (hq : w0.heap.size ≤ q) (a b : Value) :
    Ctx base M0 w0 ((w.setCell ⟨q, 0, none⟩ a).setCell ⟨q, 1, none⟩ b) v σ bx K ∧ ((w.setCell ⟨q, 0, none⟩ a).setCell ⟨q, 1, none⟩ b).heap[q]? = some (.cells #[a, b] 67 (0, 0)) := by
  have ho : Only (fun x => x = q) w ((w.setCell ⟨q, 0, none⟩ a).setCell ⟨q, 1, none⟩ b) :=
    Only.setCell (S := fun x => x = q) (p := ⟨q, 1, none⟩) (Only.setCell (S := fun x => x = q) (p := ⟨q, 0, none⟩) (Only.refl _ _) rfl _) rfl _
  obtain ⟨_, M, h1, h2, h3, h4, h5⟩ := h
  have hn : ¬ M q := fun hm => h4.2 (.inl hm)
  refine ⟨⟨hK, M, h1.other67 ho (fun b hb => ?_), h2.trans' ho hq, ⟨fun x hx => ?_, h3.nodup⟩, ?_⟩, heap_same2 h4.1⟩
  · subst hb; exact ⟨hn, _, _, h4.1⟩
  · obtain ⟨g1, g2, g3, g4⟩ := h3.at_ x hx
    refine ⟨ho.heap g1 (fun e => h4.2 (.inr (List.mem_map.2 ⟨x, hx, e⟩))), g2, g3, g4⟩
  · have hk : K _ fun b => Loose M bx b ∨ b = q := hK _ _ _ _ ⟨ho.mono fun k _ hk => .inr hk, fun b hb => .inl hb⟩ h5
    exact hK.less hk fun b hb => .inl hb
end


theorem Row.away {S : Nat → Prop} {w : World} {A : Option Addr} {n k q : Nat} {xs : List Value} {a b : Value} (h : Row S w A n k xs) (hq : w.heap[q]? = some (.cells #[a, b] 67 (0, 0))) (ha : ∀ u ∈ xs, u ≠ a ∧ u ≠ b) : Row (fun x => S x ∧ x ≠ q) w A n k xs := by
  refine ⟨h.len, fun hp => ?_⟩
  obtain ⟨c, off, e, hs, hc⟩ := h.at_ hp
  refine ⟨c, off, e, ⟨hs, fun ec => ?_⟩, hc⟩
  subst ec
  have h0 := hc 0 _ (List.getElem?_eq_getElem hp)
  rw [cell_of_heap hq] at h0
  have hm := ha _ (List.getElem_mem hp)
  simp only [Nat.add_zero] at h0
  match off with
  | 0 => simp at h0; exact hm.1 h0.symm
  | 1 => simp at h0; exact hm.2 h0.symm
  | n + 2 => simp at h0
theorem RefS.away {w : World} {q : Nat} {X : Nat → Prop} {σ : St} {rv : Value} {A B : Option Addr} {n c m d : Nat} (h : RefS rv σ w X) (hq : w.heap[q]? = some (.cells #[.slice A n c, .slice B m d] 67 (0, 0))) : RefS rv σ w fun b => X b ∨ b = q := by
  obtain ⟨A', c', B', d', h1, h2, h3, h4⟩ := h
  refine ⟨A', c', B', d', h1, (h2.away hq (fun u hu => ?_)).mono fun b _ hb hx => ?_, (h3.away hq (fun u hu => ?_)).mono fun b _ hb hx => ?_, h4⟩
  · obtain ⟨x, _, rfl⟩ := List.mem_map.1 hu
    exact ⟨fun e => (by cases e), fun e => (by cases e)⟩
  · rcases hx with hx | hx
    · exact hb.1 hx
    · exact hb.2 hx
  · unfold puts at hu
    rw [List.mem_flatMap] at hu
    obtain ⟨x, _, hx⟩ := hu
    simp only [List.mem_cons, List.not_mem_nil, or_false] at hx
    rcases hx with rfl | rfl <;> exact ⟨fun e => (by cases e), fun e => (by cases e)⟩
  · rcases hx with hx | hx
    · exact hb.1 hx
    · exact hb.2 hx
/-- What 'played' answers. -/
def PlayedS (w0 : World) (kk : List (Nat × Nat)) (l : List Dd) (K0 : World → (Nat → Prop) → Prop) (e : Ending) (w' : World) : Prop :=
  ∃ (base : Nat) (p : Option Addr) (A1 : Option Addr) (n1 c1 : Nat) (B1 : Option Addr) (n2 d1 : Nat),
    e = .returned (.tuple #[.pointer p, .agg #[.slice A1 n1 c1, .slice B1 n2 d1], .bool true]) ∧
    Ctx base (fun _ => False) w0 w' (.pointer p) (deedsS (fillS ⟨fmtW 600 4480, []⟩ (kk.take 60)) (l.take 40)) [] fun w X => RefS (.agg #[.slice A1 n1 c1, .slice B1 n2 d1]) (deedsS (fillS ⟨fmtW 600 4480, []⟩ (kk.take 60)) (l.take 40)) w X ∧ K0 w X

theorem results_tct {fn : Func} {tmps : Array Value} {t p u : Tmp} {W : World} {g : Nat} {a b x y : Value} {fr : Nat × Nat} (hf : fn.results = #[.tmp t, .cell p 67, .tmp u])
    (ht : tmps.getD t undef = x) (hp : tmps.getD p undef = .pointer (some ⟨g, 0, none⟩)) (hu : tmps.getD u undef = y) (hg : W.heap[g]? = some (.cells #[a, b] 67 fr)) :
    (results fn tmps).run Try.prog W = .ok (.tuple #[x, .agg #[a, b], y]) W := by
  have ht' : tmps[t]?.getD undef = x := by simpa using ht
  have hp' : tmps[p]?.getD undef = .pointer (some ⟨g, 0, none⟩) := by simpa using hp
  have hu' : tmps[u]?.getD undef = y := by simpa using hu
  have c0 : W.cell? ⟨g, 0, none⟩ = some a := by rw [cell_of_heap hg]; rfl
  have c1 : W.cell? ⟨g, 1, none⟩ = some b := by rw [cell_of_heap hg]; rfl
  simp only [results, hf]
  go_simp

set_option maxRecDepth 100000 in
set_option maxHeartbeats 8000000 in
theorem played_S {w0 w : World} {A D : Option Addr} {n m : Nat} {kk : List (Nat × Nat)} {l : List Dd} {K0 : World → (Nat → Prop) → Prop} (hg0 : Grow w0 w) (hl : Puts (fun b => b < w0.heap.size) w0 A kk) (hm : kk.length ≤ 9223372036854775807)
    (hx : ∀ p ∈ kk, p.1 < 18446744073709551616 ∧ p.2 < 18446744073709551616) (hD : Row (fun b => b < w0.heap.size) w0 D l.length 3 (ddeeds l)) (hdl : l.length ≤ 9223372036854775807) (ho : ∀ d ∈ l, d.2.2 < 18446744073709551616)
    (hK : Stable K0) (hk : K0 w (fun b => w.heap.size ≤ b)) :
    Calls Try.prog 126 #[.slice A kk.length n, .slice D l.length m] w (PlayedS w0 kk l K0) := by
  have hga : Grow w (w.alloc (.cells #[.slice none 0 0, .slice none 0 0] 67)) := (Below.refl _ _).alloc (Nat.le_refl _) _
  have hq5 : w0.heap.size ≤ w.heap.size := hg0.size
  have hlie := World.alloc_heap_new w (.cells #[.slice none 0 0, .slice none 0 0] 67)
  have hK1 : Stable (Plus w.heap.size fun w X => Row (fun b => ¬ X b) w D l.length 3 (ddeeds l) ∧ K0 w X) := stable_plus _ (stable_row.and hK)
  have hk1 : Lies w.heap.size #[.slice none 0 0, .slice none 0 0] 67 (w.alloc (.cells #[.slice none 0 0, .slice none 0 0] 67)) (fun b => (w.alloc (.cells #[.slice none 0 0, .slice none 0 0] 67)).heap.size ≤ b) ∧
      Plus w.heap.size (fun w X => Row (fun b => ¬ X b) w D l.length 3 (ddeeds l) ∧ K0 w X) (w.alloc (.cells #[.slice none 0 0, .slice none 0 0] 67)) (fun b => (w.alloc (.cells #[.slice none 0 0, .slice none 0 0] 67)).heap.size ≤ b) := by
    refine ⟨Lies.fresh hlie, (hD.grow (hg0.trans hga)).mono fun b _ hb hh => ?_, hK _ _ _ _ ⟨Only.of_below hga, fun b hb => ?_⟩ hk⟩
    · have := hga.size
      rcases hh with hh | hh <;> omega
    · have := hga.size
      rcases hb with hb | hb
      · exact .inr (by omega)
      · exact .inr (by omega)
  generalize hq : w.heap.size = q5 at *
  go_enter Try.func126, Try.ntmps126
  go_wp2_with fail
  try rw [hq]
  generalize w.alloc (.cells #[.slice none 0 0, .slice none 0 0] 67) = wa at *
  refine (formed_S (K0 := fun w X => Lies q5 #[.slice none 0 0, .slice none 0 0] 67 w X ∧ Plus q5 (fun w X => Row (fun b => ¬ X b) w D l.length 3 (ddeeds l) ∧ K0 w X) w X) (hg0.trans hga) hl (stable_lies.and hK1) hk1 fun hl1 => formed138 (c := n) 4480 (by unfold fits; omega) hl1 hm hx).mono ?_
  rintro e w2 ⟨base, p, A', n1, c', B', n2, d', rfl, C2⟩
  have hW := fill_W 4480 (kk.take 60)
  obtain ⟨σ0, hσ0⟩ : ∃ τ, fillS ⟨fmtW 600 4480, []⟩ (kk.take 60) = τ := ⟨_, rfl⟩
  rw [hσ0] at C2 hW
  have HS0 := Lib.hid hσ0
  clear hσ0
  replace C2 := C2.less (stable_refS.and (stable_lies.and hK1)) (fun w X h => ⟨h.1, h.2.2⟩)
  have HW0 := Lib.hid hW
  clear hl hx hD hW hlie hga hk hk1
  have C3 := C2.alloc #[.slice A' n1 c', .slice B' n2 d'] 67
  clear C2
  go_wp2_with fail
  generalize w2.alloc (.cells #[.slice A' n1 c', .slice B' n2 d'] 67) = w3 at C3 ⊢
  generalize w2.heap.size = q8 at *
  go_loopw [9, 10] (fun t i wr => ∃ (k : Nat) (σ : St) (A1 : Option Addr) (n1 c1 : Nat) (B1 : Option Addr) (m1 d1 : Nat), k ≤ (l.take 40).length ∧ t = .bool true ∧ i = .int .i64 (k : Int) ∧ Hid (σ.W.length = 600) ∧ Hid (σ = deedsS σ0 ((l.take 40).take k)) ∧
      Ctx base (fun _ => False) w0 wr (.pointer p) σ [(q8, #[.slice A1 n1 c1, .slice B1 m1 d1], 67)] (fun w X => RefS (.agg #[.slice A1 n1 c1, .slice B1 m1 d1]) σ w X ∧ Lies q5 #[.slice none 0 0, .slice none 0 0] 67 w X ∧ Plus q5 (fun w X => Row (fun b => ¬ X b) w D l.length 3 (ddeeds l) ∧ K0 w X) w X))
    (fun _ i _ => l.length - (intOf i).toNat)
  case atStart => exact ⟨0, σ0, A', n1, c', B', n2, d', Nat.zero_le _, rfl, rfl, HW0, Lib.hid rfl, C3⟩
  case round =>
    clear C3
    obtain ⟨k, σ, A1, n1, c1, B1, m1, d1, hk, rfl, rfl, HW, HS, C3⟩ := hrel
    have htl : (l.take 40).length = min 40 l.length := List.length_take
    by_cases hlt : k < (l.take 40).length
    · have g0 : decide ((k : Int) < l.length) = true := decide_eq_true (by omega)
      have g1 : decide ((k : Int) < 40) = true := decide_eq_true (by omega)
      obtain ⟨d, hd⟩ : ∃ d, (l.take 40)[k]? = some d := ⟨_, List.getElem?_eq_getElem hlt⟩
      have hd' : l[k]? = some d := by rw [List.getElem?_take] at hd; split at hd; exact hd; cases hd
      obtain ⟨dr, nm, off⟩ := d
      have hoff : off < 18446744073709551616 := ho _ (List.mem_of_getElem? hd')
      have hSn : deedS σ (dr, nm, off) = deedsS σ0 ((l.take 40).take (k + 1)) := by
        rw [List.take_add_one, hd, Option.toList_some, deedsS_snoc, HS.out]
      obtain ⟨e1, e2, e3⟩ := ddeeds_get hd'
      simp only at e1 e2 e3
      have HD := Lib.hid (⟨e1, e2, e3⟩ : (ddeeds l)[k * 3]? = some (.bool dr) ∧ (ddeeds l)[k * 3 + 1]? = some (.string nm) ∧ (ddeeds l)[k * 3 + 2]? = some (.int .u64 (off : Int)))
      have hkl : k < l.length := by omega
      have hk1 : k + 1 ≤ (l.take 40).length := by omega
      have hkm : k < 40 := by omega
      clear hd hd' e1 e2 e3 htl hlt hk
      obtain ⟨X, hX⟩ := C3.know
      obtain ⟨b, o, hDb, -, hcell⟩ := hX.2.2.1.pos (by omega) (by omega)
      subst hDb
      have hrow : ∀ {w' : World} {K' : World → (Nat → Prop) → Prop} {σ' : St} {bx' : List Bx}, Ctx base (fun _ => False) w0 w' (.pointer p) σ' bx' (fun w X => K' w X ∧ Lies q5 #[.slice none 0 0, .slice none 0 0] 67 w X ∧ Plus q5 (fun w X => Row (fun b => ¬ X b) w (some ⟨b, o, none⟩) l.length 3 (ddeeds l) ∧ K0 w X) w X) →
          w'.cell? ⟨b, o + k * 3, none⟩ = some (.bool dr) ∧ w'.cell? ⟨b, o + k * 3 + 1, none⟩ = some (.string nm) ∧ w'.cell? ⟨b, o + k * 3 + 2, none⟩ = some (.int .u64 (off : Int)) := fun {w' K' σ' bx'} hC => by
        obtain ⟨X', hX'⟩ := hC.know
        obtain ⟨b', o', hb', -, hc'⟩ := hX'.2.2.1.pos (by omega) (by omega)
        cases hb'
        exact ⟨hc' _ _ HD.out.1, by have := hc' _ _ HD.out.2.1; rwa [← Nat.add_assoc] at this, by have := hc' _ _ HD.out.2.2; rwa [← Nat.add_assoc] at this⟩
      clear hcell hX
      obtain ⟨x0, x1, x2⟩ := hrow C3
      have q0 := C3.cell (List.mem_cons_self ..) 0
      have q1 := C3.cell (List.mem_cons_self ..) 1
      have gi0 : (0 : Int) ≤ k := by omega
      have gi1 : (k : Int) < l.length := by omega
      by_cases hbig : 100 < nm.size
      · have t0 : decide ((100 : Int) < (nm.size : Int)) = true := decide_eq_true (by omega)
        have hSn' : σ = deedsS σ0 ((l.take 40).take (k + 1)) := by rw [← hSn]; unfold deedS; exact (if_pos hbig).symm
        have HN := Lib.hid hSn'
        clear hSn hSn' hbig x0 x2 hrow q0 q1
        go_wp2
        go_roundw
        case rel => exact ⟨k + 1, σ, A1, n1, c1, B1, m1, d1, hk1, rfl, by go_num, HW, HN, C3⟩
        case measure => simp [intOf]; omega
      · have t0 : decide ((100 : Int) < (nm.size : Int)) = false := decide_eq_false (by omega)
        have hsz : nm.size ≤ 100 := by omega
        have hfine := C3.fine HW.out
        have hfineS := C3.fineS HW.out
        clear hbig
        cases dr
        · have hSn' : putS σ nm off = deedsS σ0 ((l.take 40).take (k + 1)) := by rw [← hSn]; unfold deedS; rw [if_neg (show ¬ 100 < nm.size by omega), if_neg (by simp)]
          have hW' : (putS σ nm off).W.length = 600 := by rw [putS_W]; exact HW.out
          have HW2 := Lib.hid hW'
          have HN := Lib.hid hSn'
          have D1 := C3.drew.dput HW.out nm off hoff
          clear hSn hSn' hW'
          obtain ⟨z, hr⟩ : ∃ z, putE σ.load nm off = z := ⟨_, rfl⟩
          rw [hr] at D1
          have HR := Lib.hid hr
          clear hr
          obtain ⟨σ2, hN2⟩ : ∃ τ, putS σ nm off = τ := ⟨_, rfl⟩
          rw [hN2] at HW2 HN D1
          have HN2 := Lib.hid hN2
          clear hN2
          go_wp2
          refine region_plain (fun w' => w'.cell? ⟨b, o + k * 3 + 1, none⟩ = some (.string nm) ∧ w'.cell? ⟨b, o + k * 3 + 2, none⟩ = some (.int .u64 (off : Int))) (by kernel_rfl) ⟨x1, x2⟩ (fun hHeld => ?_)
          refine wpAnyH_take (i := 0) (v := ?_) rfl (by kernel_rfl) (by kernel_rfl) (by kernel_rfl) (fun _ _ _ h => h) (Or.inl ⟨by first | kernel_rfl | rfl, ?_⟩) (by assumption) ?_
          rotate_left
          · intro w hSw; (try dsimp only at hSw); (try go_split_ands); go_simp; first | done | with_reducible rfl
          try simp only [Act.put, List.getElem_toArray, List.getElem_cons_zero, List.setIfInBounds_toArray, List.set_cons_zero, List.set_cons_succ]
          refine wpAnyH_take (i := 1) (v := ?_) rfl (by kernel_rfl) (by kernel_rfl) (by kernel_rfl) (fun _ _ _ h => h) (Or.inl ⟨by first | kernel_rfl | rfl, ?_⟩) (by assumption) ?_
          rotate_left
          · intro w hSw; (try dsimp only at hSw); (try go_split_ands); go_simp; first | done | with_reducible rfl
          try simp only [Act.put, List.getElem_toArray, List.getElem_cons_succ, List.getElem_cons_zero, List.setIfInBounds_toArray, List.set_cons_zero, List.set_cons_succ]
          refine wpAnyH_take (i := 2) (v := ?_) rfl (by kernel_rfl) (by kernel_rfl) (by kernel_rfl) (fun _ _ _ h => h) (Or.inl ⟨by first | kernel_rfl | rfl, ?_⟩) (by assumption) ?_
          rotate_left
          · intro w hSw; (try dsimp only at hSw); (try go_split_ands); go_simp; first | done | with_reducible rfl
          try simp only [Act.put, List.getElem_toArray, List.getElem_cons_succ, List.getElem_cons_zero, List.setIfInBounds_toArray, List.set_cons_zero, List.set_cons_succ]
          refine wpAnyH_take (i := 3) (v := ?_) rfl (by kernel_rfl) (by kernel_rfl) (by kernel_rfl) (fun _ _ _ h => h) (Or.inl ⟨by first | kernel_rfl | rfl, ?_⟩) (by assumption) ?_
          rotate_left
          · intro w hSw; (try dsimp only at hSw); (try go_split_ands); go_simp; first | done | with_reducible rfl
          try simp only [Act.put, List.getElem_toArray, List.getElem_cons_succ, List.getElem_cons_zero, List.setIfInBounds_toArray, List.set_cons_zero, List.set_cons_succ]
          refine wpAnyH_take (i := 4) (v := ?_) rfl (by kernel_rfl) (by kernel_rfl) (by kernel_rfl) (fun _ _ _ h => h) (Or.inl ⟨by first | kernel_rfl | rfl, ?_⟩) (by assumption) ?_
          rotate_left
          · intro w hSw; (try dsimp only at hSw); (try go_split_ands); go_simp; first | done | with_reducible rfl
          try simp only [Act.put, List.getElem_toArray, List.getElem_cons_succ, List.getElem_cons_zero, List.setIfInBounds_toArray, List.set_cons_zero, List.set_cons_succ]
          refine wpAnyH_take (i := 5) (v := ?_) rfl (by kernel_rfl) (by kernel_rfl) (by kernel_rfl) (fun _ _ _ h => h) (Or.inl ⟨by first | kernel_rfl | rfl, ?_⟩) (by assumption) ?_
          rotate_left
          · intro w hSw; (try dsimp only at hSw); (try go_split_ands); go_simp; first | done | with_reducible rfl
          try simp only [Act.put, List.getElem_toArray, List.getElem_cons_succ, List.getElem_cons_zero, List.setIfInBounds_toArray, List.set_cons_zero, List.set_cons_succ]
          refine wpAnyH_take (i := 6) (v := ?_) rfl (by kernel_rfl) (by kernel_rfl) (by kernel_rfl) (fun _ _ _ h => h) (Or.inl ⟨by first | kernel_rfl | rfl, ?_⟩) (by assumption) ?_
          rotate_left
          · intro w hSw; (try dsimp only at hSw); (try go_split_ands); go_simp; first | done | with_reducible rfl
          try simp only [Act.put, List.getElem_toArray, List.getElem_cons_succ, List.getElem_cons_zero, List.setIfInBounds_toArray, List.set_cons_zero, List.set_cons_succ]
          refine wpAnyH_take (i := 7) (v := ?_) rfl (by kernel_rfl) (by kernel_rfl) (by kernel_rfl) (fun _ _ _ h => h) (Or.inl ⟨by first | kernel_rfl | rfl, ?_⟩) (by assumption) ?_
          rotate_left
          · intro w hSw; (try dsimp only at hSw); (try go_split_ands); go_simp; first | done | with_reducible rfl
          try simp only [Act.put, List.getElem_toArray, List.getElem_cons_succ, List.getElem_cons_zero, List.setIfInBounds_toArray, List.set_cons_zero, List.set_cons_succ]
          refine wpAnyH_take (i := 8) (v := ?_) rfl (by kernel_rfl) (by kernel_rfl) (by kernel_rfl) (fun _ _ _ h => h) (Or.inl ⟨by first | kernel_rfl | rfl, ?_⟩) (by assumption) ?_
          rotate_left
          · intro w hSw; (try dsimp only at hSw); (try go_split_ands); go_simp; first | done | with_reducible rfl
          try simp only [Act.put, List.getElem_toArray, List.getElem_cons_succ, List.getElem_cons_zero, List.setIfInBounds_toArray, List.set_cons_zero, List.set_cons_succ]
          refine wpAnyH_take (i := 9) (v := ?_) rfl (by kernel_rfl) (by kernel_rfl) (by kernel_rfl) (fun _ _ _ h => h) (Or.inl ⟨by first | kernel_rfl | rfl, ?_⟩) (by assumption) ?_
          rotate_left
          · intro w hSw; (try dsimp only at hSw); (try go_split_ands); go_simp; first | done | with_reducible rfl
          try simp only [Act.put, List.getElem_toArray, List.getElem_cons_succ, List.getElem_cons_zero, List.setIfInBounds_toArray, List.set_cons_zero, List.set_cons_succ]
          refine wpAnyH_take (i := 10) (v := ?_) rfl (by kernel_rfl) (by kernel_rfl) (by kernel_rfl) (fun _ _ _ h => h) (Or.inl ⟨by first | kernel_rfl | rfl, ?_⟩) (by assumption) ?_
          rotate_left
          · intro w hSw; (try dsimp only at hSw); (try go_split_ands); go_simp; first | done | with_reducible rfl
          try simp only [Act.put, List.getElem_toArray, List.getElem_cons_succ, List.getElem_cons_zero, List.setIfInBounds_toArray, List.set_cons_zero, List.set_cons_succ]
          refine wpAnyH_ready (rs := [11]) (by kernel_rfl) (by simp) ?_
          refine AllReadyH.cons rfl (fun K hK => ?_) AllReadyH.nil
          go_simp
          go_at_call 136
          refine Calls.mono D1 ?_
          rintro e w4 ⟨rfl, C4⟩
          clear D1 C3 x0 x1 x2 q0 q1
          go_wp2_with fail
          refine hK.out _ _ ?_ (fun hHeld => ?_)
          · exact ⟨(hrow C4).2.1, (hrow C4).2.2⟩
          clear hK K
          try simp only [Act.put, List.getElem_toArray, List.getElem_cons_succ, List.getElem_cons_zero, List.setIfInBounds_toArray, List.set_cons_zero, List.set_cons_succ]
          refine wpAnyH_take (i := 12) (v := ?_) rfl (by kernel_rfl) (by kernel_rfl) (by kernel_rfl) (fun _ _ _ h => h) (Or.inl ⟨by first | kernel_rfl | rfl, ?_⟩) (by assumption) ?_
          rotate_left
          · intro w hSw; (try dsimp only at hSw); (try go_split_ands); go_simp; first | done | with_reducible rfl
          try simp only [Act.put, List.getElem_toArray, List.getElem_cons_succ, List.getElem_cons_zero, List.setIfInBounds_toArray, List.set_cons_zero, List.set_cons_succ]
          refine wpAnyH_done (by kernel_rfl) ?_ _
          refine NoPanic.normal ?_
          obtain ⟨x0, x1, x2⟩ := hrow C4
          have q0 := C4.cell (List.mem_cons_self ..) 0
          have q1 := C4.cell (List.mem_cons_self ..) 1
          have C4d := C4.drew
          go_wp2
          refine region_plain (fun w' => w'.cell? ⟨b, o + k * 3 + 1, none⟩ = some (.string nm) ∧ w'.cell? ⟨b, o + k * 3 + 2, none⟩ = some (.int .u64 (off : Int)) ∧ w'.cell? ⟨q8, 0, none⟩ = some (.slice A1 n1 c1) ∧ w'.cell? ⟨q8, 1, none⟩ = some (.slice B1 m1 d1)) (by kernel_rfl) ⟨x1, x2, q0, q1⟩ (fun hHeld => ?_)
          refine wpAnyH_take (i := 0) (v := ?_) rfl (by kernel_rfl) (by kernel_rfl) (by kernel_rfl) (fun _ _ _ h => h) (Or.inl ⟨by first | kernel_rfl | rfl, ?_⟩) (by assumption) ?_
          rotate_left
          · intro w hSw; (try dsimp only at hSw); (try go_split_ands); go_simp; first | done | with_reducible rfl
          try simp only [Act.put, List.getElem_toArray, List.getElem_cons_zero, List.setIfInBounds_toArray, List.set_cons_zero, List.set_cons_succ]
          refine wpAnyH_take (i := 1) (v := ?_) rfl (by kernel_rfl) (by kernel_rfl) (by kernel_rfl) (fun _ _ _ h => h) (Or.inl ⟨by first | kernel_rfl | rfl, ?_⟩) (by assumption) ?_
          rotate_left
          · intro w hSw; (try dsimp only at hSw); (try go_split_ands); go_simp; first | done | with_reducible rfl
          try simp only [Act.put, List.getElem_toArray, List.getElem_cons_succ, List.getElem_cons_zero, List.setIfInBounds_toArray, List.set_cons_zero, List.set_cons_succ]
          refine wpAnyH_take (i := 2) (v := ?_) rfl (by kernel_rfl) (by kernel_rfl) (by kernel_rfl) (fun _ _ _ h => h) (Or.inl ⟨by first | kernel_rfl | rfl, ?_⟩) (by assumption) ?_
          rotate_left
          · intro w hSw; (try dsimp only at hSw); (try go_split_ands); go_simp; first | done | with_reducible rfl
          try simp only [Act.put, List.getElem_toArray, List.getElem_cons_succ, List.getElem_cons_zero, List.setIfInBounds_toArray, List.set_cons_zero, List.set_cons_succ]
          refine wpAnyH_take (i := 3) (v := ?_) rfl (by kernel_rfl) (by kernel_rfl) (by kernel_rfl) (fun _ _ _ h => h) (Or.inl ⟨by first | kernel_rfl | rfl, ?_⟩) (by assumption) ?_
          rotate_left
          · intro w hSw; (try dsimp only at hSw); (try go_split_ands); go_simp; first | done | with_reducible rfl
          try simp only [Act.put, List.getElem_toArray, List.getElem_cons_succ, List.getElem_cons_zero, List.setIfInBounds_toArray, List.set_cons_zero, List.set_cons_succ]
          refine wpAnyH_take (i := 4) (v := ?_) rfl (by kernel_rfl) (by kernel_rfl) (by kernel_rfl) (fun _ _ _ h => h) (Or.inl ⟨by first | kernel_rfl | rfl, ?_⟩) (by assumption) ?_
          rotate_left
          · intro w hSw; (try dsimp only at hSw); (try go_split_ands); go_simp; first | done | with_reducible rfl
          try simp only [Act.put, List.getElem_toArray, List.getElem_cons_succ, List.getElem_cons_zero, List.setIfInBounds_toArray, List.set_cons_zero, List.set_cons_succ]
          refine wpAnyH_take (i := 5) (v := ?_) rfl (by kernel_rfl) (by kernel_rfl) (by kernel_rfl) (fun _ _ _ h => h) (Or.inl ⟨by first | kernel_rfl | rfl, ?_⟩) (by assumption) ?_
          rotate_left
          · intro w hSw; (try dsimp only at hSw); (try go_split_ands); go_simp; first | done | with_reducible rfl
          try simp only [Act.put, List.getElem_toArray, List.getElem_cons_succ, List.getElem_cons_zero, List.setIfInBounds_toArray, List.set_cons_zero, List.set_cons_succ]
          refine wpAnyH_take (i := 6) (v := ?_) rfl (by kernel_rfl) (by kernel_rfl) (by kernel_rfl) (fun _ _ _ h => h) (Or.inl ⟨by first | kernel_rfl | rfl, ?_⟩) (by assumption) ?_
          rotate_left
          · intro w hSw; (try dsimp only at hSw); (try go_split_ands); go_simp; first | done | with_reducible rfl
          try simp only [Act.put, List.getElem_toArray, List.getElem_cons_succ, List.getElem_cons_zero, List.setIfInBounds_toArray, List.set_cons_zero, List.set_cons_succ]
          refine wpAnyH_take (i := 7) (v := ?_) rfl (by kernel_rfl) (by kernel_rfl) (by kernel_rfl) (fun _ _ _ h => h) (Or.inl ⟨by first | kernel_rfl | rfl, ?_⟩) (by assumption) ?_
          rotate_left
          · intro w hSw; (try dsimp only at hSw); (try go_split_ands); go_simp; first | done | with_reducible rfl
          try simp only [Act.put, List.getElem_toArray, List.getElem_cons_succ, List.getElem_cons_zero, List.setIfInBounds_toArray, List.set_cons_zero, List.set_cons_succ]
          refine wpAnyH_take (i := 8) (v := ?_) rfl (by kernel_rfl) (by kernel_rfl) (by kernel_rfl) (fun _ _ _ h => h) (Or.inl ⟨by first | kernel_rfl | rfl, ?_⟩) (by assumption) ?_
          rotate_left
          · intro w hSw; (try dsimp only at hSw); (try go_split_ands); go_simp; first | done | with_reducible rfl
          try simp only [Act.put, List.getElem_toArray, List.getElem_cons_succ, List.getElem_cons_zero, List.setIfInBounds_toArray, List.set_cons_zero, List.set_cons_succ]
          refine wpAnyH_take (i := 9) (v := ?_) rfl (by kernel_rfl) (by kernel_rfl) (by kernel_rfl) (fun _ _ _ h => h) (Or.inl ⟨by first | kernel_rfl | rfl, ?_⟩) (by assumption) ?_
          rotate_left
          · intro w hSw; (try dsimp only at hSw); (try go_split_ands); go_simp; first | done | with_reducible rfl
          try simp only [Act.put, List.getElem_toArray, List.getElem_cons_succ, List.getElem_cons_zero, List.setIfInBounds_toArray, List.set_cons_zero, List.set_cons_succ]
          refine wpAnyH_take (i := 10) (v := ?_) rfl (by kernel_rfl) (by kernel_rfl) (by kernel_rfl) (fun _ _ _ h => h) (Or.inl ⟨by first | kernel_rfl | rfl, ?_⟩) (by assumption) ?_
          rotate_left
          · intro w hSw; (try dsimp only at hSw); (try go_split_ands); go_simp; first | done | with_reducible rfl
          try simp only [Act.put, List.getElem_toArray, List.getElem_cons_succ, List.getElem_cons_zero, List.setIfInBounds_toArray, List.set_cons_zero, List.set_cons_succ]
          refine wpAnyH_ready (rs := [11, 15]) (by kernel_rfl) (by simp) ?_
          refine AllReadyH.cons rfl (fun K hK => ?_) (AllReadyH.cons rfl (fun K hK => ?_) AllReadyH.nil)
          · go_simp
            go_at_call 175
            refine Calls.mono (C4d.rput (stable_lies.and hK1) hfineS nm hsz off) ?_
            rintro e w6 ⟨rv', hz', C6⟩
            rw [HR.out] at hz'
            subst hz'
            obtain ⟨A6, n6, c6, B6, m6, d6, rfl⟩ := C6.agg
            rw [show putS σ nm off = σ2 from HN2.out] at C6
            clear x0 x1 x2 q0 q1
            clear C4 C4d
            go_wp2_with fail
            refine hK.out _ _ ?_ (fun hHeld => ?_)
            · exact ⟨(hrow C6).2.1, (hrow C6).2.2, C6.cell (List.mem_cons_self ..) 0, C6.cell (List.mem_cons_self ..) 1⟩
            clear hK K
            try simp only [Act.put, List.getElem_toArray, List.getElem_cons_succ, List.getElem_cons_zero, List.setIfInBounds_toArray, List.set_cons_zero, List.set_cons_succ]
            refine wpAnyH_take (i := 12) (v := ?_) rfl (by kernel_rfl) (by kernel_rfl) (by kernel_rfl) (fun _ _ _ h => h) (Or.inl ⟨by first | kernel_rfl | rfl, ?_⟩) (by assumption) ?_
            rotate_left
            · intro w hSw; (try dsimp only at hSw); (try go_split_ands); go_simp; first | done | with_reducible rfl
            try simp only [Act.put, List.getElem_toArray, List.getElem_cons_succ, List.getElem_cons_zero, List.setIfInBounds_toArray, List.set_cons_zero, List.set_cons_succ]
            refine wpAnyH_take (i := 13) (v := ?_) rfl (by kernel_rfl) (by kernel_rfl) (by kernel_rfl) (fun _ _ _ h => h) (Or.inl ⟨by first | kernel_rfl | rfl, ?_⟩) (by assumption) ?_
            rotate_left
            · intro w hSw; (try dsimp only at hSw); (try go_split_ands); go_simp; first | done | with_reducible rfl
            try simp only [Act.put, List.getElem_toArray, List.getElem_cons_succ, List.getElem_cons_zero, List.setIfInBounds_toArray, List.set_cons_zero, List.set_cons_succ]
            refine wpAnyH_take (i := 14) (v := ?_) rfl (by kernel_rfl) (by kernel_rfl) (by kernel_rfl) (fun _ _ _ h => h) (Or.inl ⟨by first | kernel_rfl | rfl, ?_⟩) (by assumption) ?_
            rotate_left
            · intro w hSw; (try dsimp only at hSw); (try go_split_ands); go_simp; first | done | with_reducible rfl
            try simp only [Act.put, List.getElem_toArray, List.getElem_cons_succ, List.getElem_cons_zero, List.setIfInBounds_toArray, List.set_cons_zero, List.set_cons_succ]
            refine wpAnyH_ready (rs := [15]) (by kernel_rfl) (by simp) ?_
            refine AllReadyH.cons rfl (fun K hK => ?_) AllReadyH.nil
            go_simp
            have C7 := C6.alloc #[.slice none 0 0, .slice none 0 0] 67
            clear C6
            refine hK.out _ _ ?_ (fun hHeld => ?_)
            · exact ⟨(hrow C7).2.1, (hrow C7).2.2, C7.cell (List.mem_cons_of_mem _ (List.mem_cons_self ..)) 0, C7.cell (List.mem_cons_of_mem _ (List.mem_cons_self ..)) 1⟩
            clear hK K
            try simp only [Act.put, List.getElem_toArray, List.getElem_cons_succ, List.getElem_cons_zero, List.setIfInBounds_toArray, List.set_cons_zero, List.set_cons_succ]
            generalize hww : w6.alloc (.cells #[.slice none 0 0, .slice none 0 0] 67) = w7 at *
            generalize w6.heap.size = q12 at *
            have z0 := C7.cell (List.mem_cons_self ..) 0
            have z1 := C7.cell (List.mem_cons_self ..) 1
            have f0 := C7.frozen (List.mem_cons_self ..) 0
            have f1 := C7.frozen (List.mem_cons_self ..) 1
            have C8 := (C7.set 0 (.slice A6 n6 c6)).set 1 (.slice B6 m6 d6)
            change Ctx _ _ _ ((w7.setCell ⟨q12, 0, none⟩ (.slice A6 n6 c6)).setCell ⟨q12, 1, none⟩ (.slice B6 m6 d6)) _ _ ((q12, #[.slice A6 n6 c6, .slice B6 m6 d6], 67) :: _) _ at C8
            refine wpAnyH_ready (rs := [16]) (by kernel_rfl) (by simp) ?_
            refine AllReadyH.cons rfl (fun K hK => ?_) AllReadyH.nil
            go_simp
            refine hK.out _ _ ?_ (fun hHeld => ?_)
            · exact ⟨(hrow C8).2.1, (hrow C8).2.2, C8.cell (List.mem_cons_of_mem _ (List.mem_cons_self ..)) 0, C8.cell (List.mem_cons_of_mem _ (List.mem_cons_self ..)) 1⟩
            clear hK K
            try simp only [Act.put, List.getElem_toArray, List.getElem_cons_succ, List.getElem_cons_zero, List.setIfInBounds_toArray, List.set_cons_zero, List.set_cons_succ]
            refine wpAnyH_take (i := 17) (v := ?_) rfl (by kernel_rfl) (by kernel_rfl) (by kernel_rfl) (fun _ _ _ h => h) (Or.inl ⟨by first | kernel_rfl | rfl, ?_⟩) (by assumption) ?_
            rotate_left
            · intro w hSw; (try dsimp only at hSw); (try go_split_ands); go_simp; first | done | with_reducible rfl
            try simp only [Act.put, List.getElem_toArray, List.getElem_cons_succ, List.getElem_cons_zero, List.setIfInBounds_toArray, List.set_cons_zero, List.set_cons_succ]
            refine wpAnyH_done (by kernel_rfl) ?_ _
            refine NoPanic.normal ?_
            clear z0 z1 f0 f1 C7
            generalize (w7.setCell ⟨q12, 0, none⟩ (.slice A6 n6 c6)).setCell ⟨q12, 1, none⟩ (.slice B6 m6 d6) = w8 at *
            have z0 := C8.cell (List.mem_cons_self ..) 0
            have z1 := C8.cell (List.mem_cons_self ..) 1
            have q0 := C8.cell (List.mem_cons_of_mem _ (List.mem_cons_self ..)) 0
            have q1 := C8.cell (List.mem_cons_of_mem _ (List.mem_cons_self ..)) 1
            have f0 := C8.frozen (List.mem_cons_of_mem _ (List.mem_cons_self ..)) 0
            have f1 := C8.frozen (List.mem_cons_of_mem _ (List.mem_cons_self ..)) 1
            have C9 := ((C8.swap.set 0 (.slice A6 n6 c6)).set 1 (.slice B6 m6 d6)).drop2
            change Ctx _ _ _ ((w8.setCell ⟨q8, 0, none⟩ (.slice A6 n6 c6)).setCell ⟨q8, 1, none⟩ (.slice B6 m6 d6)) _ _ [(q8, #[.slice A6 n6 c6, .slice B6 m6 d6], 67)] _ at C9
            have zz : ((z : Int) == z) = true := by simp
            clear C8
            go_wp2
            clear z0 z1 q0 q1 f0 f1
            generalize (w8.setCell ⟨q8, 0, none⟩ (.slice A6 n6 c6)).setCell ⟨q8, 1, none⟩ (.slice B6 m6 d6) = w9 at *
            go_roundw
            case rel => exact ⟨k + 1, σ2, A6, n6, c6, B6, m6, d6, hk1, rfl, by go_num, HW2, HN, C9⟩
            case measure => simp [intOf]; omega
          · go_simp
            have C5 := (C4.alloc #[.slice none 0 0, .slice none 0 0] 67).drew
            refine hK.out _ _ ?_ (fun hHeld => ?_)
            · exact ⟨(hrow C5).2.1, (hrow C5).2.2, C5.cell (List.mem_cons_of_mem _ (List.mem_cons_self ..)) 0, C5.cell (List.mem_cons_of_mem _ (List.mem_cons_self ..)) 1⟩
            clear hK K
            try simp only [Act.put, List.getElem_toArray, List.getElem_cons_succ, List.getElem_cons_zero, List.setIfInBounds_toArray, List.set_cons_zero, List.set_cons_succ]
            clear C4 C4d
            generalize (w4.alloc (.cells #[.slice none 0 0, .slice none 0 0] 67)).drew = w5 at *
            generalize hq12 : w4.heap.size = q12 at *
            refine wpAnyH_ready (rs := [11]) (by kernel_rfl) (by simp) ?_
            refine AllReadyH.cons rfl (fun K hK => ?_) AllReadyH.nil
            go_simp
            go_at_call 175
            refine Calls.mono (C5.rput (stable_lies.and hK1) hfineS nm hsz off) ?_
            rintro e w6 ⟨rv', hz', C6⟩
            rw [HR.out] at hz'
            subst hz'
            obtain ⟨A6, n6, c6, B6, m6, d6, rfl⟩ := C6.agg
            rw [show putS σ nm off = σ2 from HN2.out] at C6
            clear x0 x1 x2 q0 q1
            clear C5
            go_wp2_with fail
            refine hK.out _ _ ?_ (fun hHeld => ?_)
            · exact ⟨(hrow C6).2.1, (hrow C6).2.2, C6.cell (List.mem_cons_of_mem _ (List.mem_cons_self ..)) 0, C6.cell (List.mem_cons_of_mem _ (List.mem_cons_self ..)) 1⟩
            clear hK K
            try simp only [Act.put, List.getElem_toArray, List.getElem_cons_succ, List.getElem_cons_zero, List.setIfInBounds_toArray, List.set_cons_zero, List.set_cons_succ]
            refine wpAnyH_take (i := 12) (v := ?_) rfl (by kernel_rfl) (by kernel_rfl) (by kernel_rfl) (fun _ _ _ h => h) (Or.inl ⟨by first | kernel_rfl | rfl, ?_⟩) (by assumption) ?_
            rotate_left
            · intro w hSw; (try dsimp only at hSw); (try go_split_ands); go_simp; first | done | with_reducible rfl
            try simp only [Act.put, List.getElem_toArray, List.getElem_cons_succ, List.getElem_cons_zero, List.setIfInBounds_toArray, List.set_cons_zero, List.set_cons_succ]
            refine wpAnyH_take (i := 13) (v := ?_) rfl (by kernel_rfl) (by kernel_rfl) (by kernel_rfl) (fun _ _ _ h => h) (Or.inl ⟨by first | kernel_rfl | rfl, ?_⟩) (by assumption) ?_
            rotate_left
            · intro w hSw; (try dsimp only at hSw); (try go_split_ands); go_simp; first | done | with_reducible rfl
            try simp only [Act.put, List.getElem_toArray, List.getElem_cons_succ, List.getElem_cons_zero, List.setIfInBounds_toArray, List.set_cons_zero, List.set_cons_succ]
            refine wpAnyH_take (i := 14) (v := ?_) rfl (by kernel_rfl) (by kernel_rfl) (by kernel_rfl) (fun _ _ _ h => h) (Or.inl ⟨by first | kernel_rfl | rfl, ?_⟩) (by assumption) ?_
            rotate_left
            · intro w hSw; (try dsimp only at hSw); (try go_split_ands); go_simp; first | done | with_reducible rfl
            try simp only [Act.put, List.getElem_toArray, List.getElem_cons_succ, List.getElem_cons_zero, List.setIfInBounds_toArray, List.set_cons_zero, List.set_cons_succ]
            have z0 := C6.cell (List.mem_cons_self ..) 0
            have z1 := C6.cell (List.mem_cons_self ..) 1
            have f0 := C6.frozen (List.mem_cons_self ..) 0
            have f1 := C6.frozen (List.mem_cons_self ..) 1
            have C8 := (C6.set 0 (.slice A6 n6 c6)).set 1 (.slice B6 m6 d6)
            change Ctx _ _ _ ((w6.setCell ⟨q12, 0, none⟩ (.slice A6 n6 c6)).setCell ⟨q12, 1, none⟩ (.slice B6 m6 d6)) _ _ ((q12, #[.slice A6 n6 c6, .slice B6 m6 d6], 67) :: _) _ at C8
            refine wpAnyH_ready (rs := [16]) (by kernel_rfl) (by simp) ?_
            refine AllReadyH.cons rfl (fun K hK => ?_) AllReadyH.nil
            go_simp
            refine hK.out _ _ ?_ (fun hHeld => ?_)
            · exact ⟨(hrow C8).2.1, (hrow C8).2.2, C8.cell (List.mem_cons_of_mem _ (List.mem_cons_self ..)) 0, C8.cell (List.mem_cons_of_mem _ (List.mem_cons_self ..)) 1⟩
            clear hK K
            try simp only [Act.put, List.getElem_toArray, List.getElem_cons_succ, List.getElem_cons_zero, List.setIfInBounds_toArray, List.set_cons_zero, List.set_cons_succ]
            refine wpAnyH_take (i := 17) (v := ?_) rfl (by kernel_rfl) (by kernel_rfl) (by kernel_rfl) (fun _ _ _ h => h) (Or.inl ⟨by first | kernel_rfl | rfl, ?_⟩) (by assumption) ?_
            rotate_left
            · intro w hSw; (try dsimp only at hSw); (try go_split_ands); go_simp; first | done | with_reducible rfl
            try simp only [Act.put, List.getElem_toArray, List.getElem_cons_succ, List.getElem_cons_zero, List.setIfInBounds_toArray, List.set_cons_zero, List.set_cons_succ]
            refine wpAnyH_done (by kernel_rfl) ?_ _
            refine NoPanic.normal ?_
            clear z0 z1 f0 f1 C6
            generalize (w6.setCell ⟨q12, 0, none⟩ (.slice A6 n6 c6)).setCell ⟨q12, 1, none⟩ (.slice B6 m6 d6) = w8 at *
            have z0 := C8.cell (List.mem_cons_self ..) 0
            have z1 := C8.cell (List.mem_cons_self ..) 1
            have q0 := C8.cell (List.mem_cons_of_mem _ (List.mem_cons_self ..)) 0
            have q1 := C8.cell (List.mem_cons_of_mem _ (List.mem_cons_self ..)) 1
            have f0 := C8.frozen (List.mem_cons_of_mem _ (List.mem_cons_self ..)) 0
            have f1 := C8.frozen (List.mem_cons_of_mem _ (List.mem_cons_self ..)) 1
            have C9 := ((C8.swap.set 0 (.slice A6 n6 c6)).set 1 (.slice B6 m6 d6)).drop2
            change Ctx _ _ _ ((w8.setCell ⟨q8, 0, none⟩ (.slice A6 n6 c6)).setCell ⟨q8, 1, none⟩ (.slice B6 m6 d6)) _ _ [(q8, #[.slice A6 n6 c6, .slice B6 m6 d6], 67)] _ at C9
            have zz : ((z : Int) == z) = true := by simp
            clear C8
            go_wp2
            clear z0 z1 q0 q1 f0 f1
            generalize (w8.setCell ⟨q8, 0, none⟩ (.slice A6 n6 c6)).setCell ⟨q8, 1, none⟩ (.slice B6 m6 d6) = w9 at *
            go_roundw
            case rel => exact ⟨k + 1, σ2, A6, n6, c6, B6, m6, d6, hk1, rfl, by go_num, HW2, HN, C9⟩
            case measure => simp [intOf]; omega
        · have hSn' : dropS σ nm = deedsS σ0 ((l.take 40).take (k + 1)) := by rw [← hSn]; unfold deedS; rw [if_neg (show ¬ 100 < nm.size by omega), if_pos rfl]
          have hW' : (dropS σ nm).W.length = 600 := by rw [dropS_W]; exact HW.out
          have HW2 := Lib.hid hW'
          have HN := Lib.hid hSn'
          have D1 := C3.ddrop HW.out nm
          clear hSn hSn' hW'
          obtain ⟨z, hr⟩ : ∃ z, findB σ.load nm = z := ⟨_, rfl⟩
          rw [hr] at D1
          have HR := Lib.hid hr
          clear hr
          obtain ⟨σ2, hN2⟩ : ∃ τ, dropS σ nm = τ := ⟨_, rfl⟩
          rw [hN2] at HW2 HN D1
          have HN2 := Lib.hid hN2
          clear hN2
          go_wp2_with fail
          refine D1.mono ?_
          rintro e w4 ⟨rfl, C4⟩
          clear D1 C3 x0 x1 x2 q0 q1
          obtain ⟨x0, x1, x2⟩ := hrow C4
          have q0 := C4.cell (List.mem_cons_self ..) 0
          have q1 := C4.cell (List.mem_cons_self ..) 1
          have C4d := C4.drew
          go_wp2
          refine region_plain (fun w' => w'.cell? ⟨b, o + k * 3 + 1, none⟩ = some (.string nm) ∧ w'.cell? ⟨b, o + k * 3 + 2, none⟩ = some (.int .u64 (off : Int)) ∧ w'.cell? ⟨q8, 0, none⟩ = some (.slice A1 n1 c1) ∧ w'.cell? ⟨q8, 1, none⟩ = some (.slice B1 m1 d1)) (by kernel_rfl) ⟨x1, x2, q0, q1⟩ (fun hHeld => ?_)
          refine wpAnyH_take (i := 0) (v := ?_) rfl (by kernel_rfl) (by kernel_rfl) (by kernel_rfl) (fun _ _ _ h => h) (Or.inl ⟨by first | kernel_rfl | rfl, ?_⟩) (by assumption) ?_
          rotate_left
          · intro w hSw; (try dsimp only at hSw); (try go_split_ands); go_simp; first | done | with_reducible rfl
          try simp only [Act.put, List.getElem_toArray, List.getElem_cons_zero, List.setIfInBounds_toArray, List.set_cons_zero, List.set_cons_succ]
          refine wpAnyH_take (i := 1) (v := ?_) rfl (by kernel_rfl) (by kernel_rfl) (by kernel_rfl) (fun _ _ _ h => h) (Or.inl ⟨by first | kernel_rfl | rfl, ?_⟩) (by assumption) ?_
          rotate_left
          · intro w hSw; (try dsimp only at hSw); (try go_split_ands); go_simp; first | done | with_reducible rfl
          try simp only [Act.put, List.getElem_toArray, List.getElem_cons_succ, List.getElem_cons_zero, List.setIfInBounds_toArray, List.set_cons_zero, List.set_cons_succ]
          refine wpAnyH_take (i := 2) (v := ?_) rfl (by kernel_rfl) (by kernel_rfl) (by kernel_rfl) (fun _ _ _ h => h) (Or.inl ⟨by first | kernel_rfl | rfl, ?_⟩) (by assumption) ?_
          rotate_left
          · intro w hSw; (try dsimp only at hSw); (try go_split_ands); go_simp; first | done | with_reducible rfl
          try simp only [Act.put, List.getElem_toArray, List.getElem_cons_succ, List.getElem_cons_zero, List.setIfInBounds_toArray, List.set_cons_zero, List.set_cons_succ]
          refine wpAnyH_take (i := 3) (v := ?_) rfl (by kernel_rfl) (by kernel_rfl) (by kernel_rfl) (fun _ _ _ h => h) (Or.inl ⟨by first | kernel_rfl | rfl, ?_⟩) (by assumption) ?_
          rotate_left
          · intro w hSw; (try dsimp only at hSw); (try go_split_ands); go_simp; first | done | with_reducible rfl
          try simp only [Act.put, List.getElem_toArray, List.getElem_cons_succ, List.getElem_cons_zero, List.setIfInBounds_toArray, List.set_cons_zero, List.set_cons_succ]
          refine wpAnyH_take (i := 4) (v := ?_) rfl (by kernel_rfl) (by kernel_rfl) (by kernel_rfl) (fun _ _ _ h => h) (Or.inl ⟨by first | kernel_rfl | rfl, ?_⟩) (by assumption) ?_
          rotate_left
          · intro w hSw; (try dsimp only at hSw); (try go_split_ands); go_simp; first | done | with_reducible rfl
          try simp only [Act.put, List.getElem_toArray, List.getElem_cons_succ, List.getElem_cons_zero, List.setIfInBounds_toArray, List.set_cons_zero, List.set_cons_succ]
          refine wpAnyH_take (i := 5) (v := ?_) rfl (by kernel_rfl) (by kernel_rfl) (by kernel_rfl) (fun _ _ _ h => h) (Or.inl ⟨by first | kernel_rfl | rfl, ?_⟩) (by assumption) ?_
          rotate_left
          · intro w hSw; (try dsimp only at hSw); (try go_split_ands); go_simp; first | done | with_reducible rfl
          try simp only [Act.put, List.getElem_toArray, List.getElem_cons_succ, List.getElem_cons_zero, List.setIfInBounds_toArray, List.set_cons_zero, List.set_cons_succ]
          refine wpAnyH_ready (rs := [6, 10]) (by kernel_rfl) (by simp) ?_
          refine AllReadyH.cons rfl (fun K hK => ?_) (AllReadyH.cons rfl (fun K hK => ?_) AllReadyH.nil)
          · go_simp
            go_at_call 174
            refine Calls.mono (C4d.rdrop (stable_lies.and hK1) hfine nm hsz) ?_
            rintro e w6 ⟨rv', hz', C6⟩
            rw [HR.out] at hz'
            subst hz'
            obtain ⟨A6, n6, c6, B6, m6, d6, rfl⟩ := C6.agg
            rw [show dropS σ nm = σ2 from HN2.out] at C6
            clear x0 x1 x2 q0 q1
            clear C4 C4d
            go_wp2_with fail
            refine hK.out _ _ ?_ (fun hHeld => ?_)
            · exact ⟨(hrow C6).2.1, (hrow C6).2.2, C6.cell (List.mem_cons_self ..) 0, C6.cell (List.mem_cons_self ..) 1⟩
            clear hK K
            try simp only [Act.put, List.getElem_toArray, List.getElem_cons_succ, List.getElem_cons_zero, List.setIfInBounds_toArray, List.set_cons_zero, List.set_cons_succ]
            refine wpAnyH_take (i := 7) (v := ?_) rfl (by kernel_rfl) (by kernel_rfl) (by kernel_rfl) (fun _ _ _ h => h) (Or.inl ⟨by first | kernel_rfl | rfl, ?_⟩) (by assumption) ?_
            rotate_left
            · intro w hSw; (try dsimp only at hSw); (try go_split_ands); go_simp; first | done | with_reducible rfl
            try simp only [Act.put, List.getElem_toArray, List.getElem_cons_succ, List.getElem_cons_zero, List.setIfInBounds_toArray, List.set_cons_zero, List.set_cons_succ]
            refine wpAnyH_take (i := 8) (v := ?_) rfl (by kernel_rfl) (by kernel_rfl) (by kernel_rfl) (fun _ _ _ h => h) (Or.inl ⟨by first | kernel_rfl | rfl, ?_⟩) (by assumption) ?_
            rotate_left
            · intro w hSw; (try dsimp only at hSw); (try go_split_ands); go_simp; first | done | with_reducible rfl
            try simp only [Act.put, List.getElem_toArray, List.getElem_cons_succ, List.getElem_cons_zero, List.setIfInBounds_toArray, List.set_cons_zero, List.set_cons_succ]
            refine wpAnyH_take (i := 9) (v := ?_) rfl (by kernel_rfl) (by kernel_rfl) (by kernel_rfl) (fun _ _ _ h => h) (Or.inl ⟨by first | kernel_rfl | rfl, ?_⟩) (by assumption) ?_
            rotate_left
            · intro w hSw; (try dsimp only at hSw); (try go_split_ands); go_simp; first | done | with_reducible rfl
            try simp only [Act.put, List.getElem_toArray, List.getElem_cons_succ, List.getElem_cons_zero, List.setIfInBounds_toArray, List.set_cons_zero, List.set_cons_succ]
            refine wpAnyH_ready (rs := [10]) (by kernel_rfl) (by simp) ?_
            refine AllReadyH.cons rfl (fun K hK => ?_) AllReadyH.nil
            go_simp
            have C7 := C6.alloc #[.slice none 0 0, .slice none 0 0] 67
            clear C6
            refine hK.out _ _ ?_ (fun hHeld => ?_)
            · exact ⟨(hrow C7).2.1, (hrow C7).2.2, C7.cell (List.mem_cons_of_mem _ (List.mem_cons_self ..)) 0, C7.cell (List.mem_cons_of_mem _ (List.mem_cons_self ..)) 1⟩
            clear hK K
            try simp only [Act.put, List.getElem_toArray, List.getElem_cons_succ, List.getElem_cons_zero, List.setIfInBounds_toArray, List.set_cons_zero, List.set_cons_succ]
            generalize hww : w6.alloc (.cells #[.slice none 0 0, .slice none 0 0] 67) = w7 at *
            generalize w6.heap.size = q12 at *
            have z0 := C7.cell (List.mem_cons_self ..) 0
            have z1 := C7.cell (List.mem_cons_self ..) 1
            have f0 := C7.frozen (List.mem_cons_self ..) 0
            have f1 := C7.frozen (List.mem_cons_self ..) 1
            have C8 := (C7.set 0 (.slice A6 n6 c6)).set 1 (.slice B6 m6 d6)
            change Ctx _ _ _ ((w7.setCell ⟨q12, 0, none⟩ (.slice A6 n6 c6)).setCell ⟨q12, 1, none⟩ (.slice B6 m6 d6)) _ _ ((q12, #[.slice A6 n6 c6, .slice B6 m6 d6], 67) :: _) _ at C8
            refine wpAnyH_ready (rs := [11]) (by kernel_rfl) (by simp) ?_
            refine AllReadyH.cons rfl (fun K hK => ?_) AllReadyH.nil
            go_simp
            refine hK.out _ _ ?_ (fun hHeld => ?_)
            · exact ⟨(hrow C8).2.1, (hrow C8).2.2, C8.cell (List.mem_cons_of_mem _ (List.mem_cons_self ..)) 0, C8.cell (List.mem_cons_of_mem _ (List.mem_cons_self ..)) 1⟩
            clear hK K
            try simp only [Act.put, List.getElem_toArray, List.getElem_cons_succ, List.getElem_cons_zero, List.setIfInBounds_toArray, List.set_cons_zero, List.set_cons_succ]
            refine wpAnyH_take (i := 12) (v := ?_) rfl (by kernel_rfl) (by kernel_rfl) (by kernel_rfl) (fun _ _ _ h => h) (Or.inl ⟨by first | kernel_rfl | rfl, ?_⟩) (by assumption) ?_
            rotate_left
            · intro w hSw; (try dsimp only at hSw); (try go_split_ands); go_simp; first | done | with_reducible rfl
            try simp only [Act.put, List.getElem_toArray, List.getElem_cons_succ, List.getElem_cons_zero, List.setIfInBounds_toArray, List.set_cons_zero, List.set_cons_succ]
            refine wpAnyH_done (by kernel_rfl) ?_ _
            refine NoPanic.normal ?_
            clear z0 z1 f0 f1 C7
            generalize (w7.setCell ⟨q12, 0, none⟩ (.slice A6 n6 c6)).setCell ⟨q12, 1, none⟩ (.slice B6 m6 d6) = w8 at *
            have z0 := C8.cell (List.mem_cons_self ..) 0
            have z1 := C8.cell (List.mem_cons_self ..) 1
            have q0 := C8.cell (List.mem_cons_of_mem _ (List.mem_cons_self ..)) 0
            have q1 := C8.cell (List.mem_cons_of_mem _ (List.mem_cons_self ..)) 1
            have f0 := C8.frozen (List.mem_cons_of_mem _ (List.mem_cons_self ..)) 0
            have f1 := C8.frozen (List.mem_cons_of_mem _ (List.mem_cons_self ..)) 1
            have C9 := ((C8.swap.set 0 (.slice A6 n6 c6)).set 1 (.slice B6 m6 d6)).drop2
            change Ctx _ _ _ ((w8.setCell ⟨q8, 0, none⟩ (.slice A6 n6 c6)).setCell ⟨q8, 1, none⟩ (.slice B6 m6 d6)) _ _ [(q8, #[.slice A6 n6 c6, .slice B6 m6 d6], 67)] _ at C9
            have zz : (z == z) = true := by simp
            clear C8
            go_wp2
            clear z0 z1 q0 q1 f0 f1
            generalize (w8.setCell ⟨q8, 0, none⟩ (.slice A6 n6 c6)).setCell ⟨q8, 1, none⟩ (.slice B6 m6 d6) = w9 at *
            go_roundw
            case rel => exact ⟨k + 1, σ2, A6, n6, c6, B6, m6, d6, hk1, rfl, by go_num, HW2, HN, C9⟩
            case measure => simp [intOf]; omega
          · go_simp
            have C5 := (C4.alloc #[.slice none 0 0, .slice none 0 0] 67).drew
            refine hK.out _ _ ?_ (fun hHeld => ?_)
            · exact ⟨(hrow C5).2.1, (hrow C5).2.2, C5.cell (List.mem_cons_of_mem _ (List.mem_cons_self ..)) 0, C5.cell (List.mem_cons_of_mem _ (List.mem_cons_self ..)) 1⟩
            clear hK K
            try simp only [Act.put, List.getElem_toArray, List.getElem_cons_succ, List.getElem_cons_zero, List.setIfInBounds_toArray, List.set_cons_zero, List.set_cons_succ]
            clear C4 C4d
            generalize (w4.alloc (.cells #[.slice none 0 0, .slice none 0 0] 67)).drew = w5 at *
            generalize hq12 : w4.heap.size = q12 at *
            refine wpAnyH_ready (rs := [6]) (by kernel_rfl) (by simp) ?_
            refine AllReadyH.cons rfl (fun K hK => ?_) AllReadyH.nil
            go_simp
            go_at_call 174
            refine Calls.mono (C5.rdrop (stable_lies.and hK1) hfine nm hsz) ?_
            rintro e w6 ⟨rv', hz', C6⟩
            rw [HR.out] at hz'
            subst hz'
            obtain ⟨A6, n6, c6, B6, m6, d6, rfl⟩ := C6.agg
            rw [show dropS σ nm = σ2 from HN2.out] at C6
            clear x0 x1 x2 q0 q1
            clear C5
            go_wp2_with fail
            refine hK.out _ _ ?_ (fun hHeld => ?_)
            · exact ⟨(hrow C6).2.1, (hrow C6).2.2, C6.cell (List.mem_cons_of_mem _ (List.mem_cons_self ..)) 0, C6.cell (List.mem_cons_of_mem _ (List.mem_cons_self ..)) 1⟩
            clear hK K
            try simp only [Act.put, List.getElem_toArray, List.getElem_cons_succ, List.getElem_cons_zero, List.setIfInBounds_toArray, List.set_cons_zero, List.set_cons_succ]
            refine wpAnyH_take (i := 7) (v := ?_) rfl (by kernel_rfl) (by kernel_rfl) (by kernel_rfl) (fun _ _ _ h => h) (Or.inl ⟨by first | kernel_rfl | rfl, ?_⟩) (by assumption) ?_
            rotate_left
            · intro w hSw; (try dsimp only at hSw); (try go_split_ands); go_simp; first | done | with_reducible rfl
            try simp only [Act.put, List.getElem_toArray, List.getElem_cons_succ, List.getElem_cons_zero, List.setIfInBounds_toArray, List.set_cons_zero, List.set_cons_succ]
            refine wpAnyH_take (i := 8) (v := ?_) rfl (by kernel_rfl) (by kernel_rfl) (by kernel_rfl) (fun _ _ _ h => h) (Or.inl ⟨by first | kernel_rfl | rfl, ?_⟩) (by assumption) ?_
            rotate_left
            · intro w hSw; (try dsimp only at hSw); (try go_split_ands); go_simp; first | done | with_reducible rfl
            try simp only [Act.put, List.getElem_toArray, List.getElem_cons_succ, List.getElem_cons_zero, List.setIfInBounds_toArray, List.set_cons_zero, List.set_cons_succ]
            refine wpAnyH_take (i := 9) (v := ?_) rfl (by kernel_rfl) (by kernel_rfl) (by kernel_rfl) (fun _ _ _ h => h) (Or.inl ⟨by first | kernel_rfl | rfl, ?_⟩) (by assumption) ?_
            rotate_left
            · intro w hSw; (try dsimp only at hSw); (try go_split_ands); go_simp; first | done | with_reducible rfl
            try simp only [Act.put, List.getElem_toArray, List.getElem_cons_succ, List.getElem_cons_zero, List.setIfInBounds_toArray, List.set_cons_zero, List.set_cons_succ]
            have z0 := C6.cell (List.mem_cons_self ..) 0
            have z1 := C6.cell (List.mem_cons_self ..) 1
            have f0 := C6.frozen (List.mem_cons_self ..) 0
            have f1 := C6.frozen (List.mem_cons_self ..) 1
            have C8 := (C6.set 0 (.slice A6 n6 c6)).set 1 (.slice B6 m6 d6)
            change Ctx _ _ _ ((w6.setCell ⟨q12, 0, none⟩ (.slice A6 n6 c6)).setCell ⟨q12, 1, none⟩ (.slice B6 m6 d6)) _ _ ((q12, #[.slice A6 n6 c6, .slice B6 m6 d6], 67) :: _) _ at C8
            refine wpAnyH_ready (rs := [11]) (by kernel_rfl) (by simp) ?_
            refine AllReadyH.cons rfl (fun K hK => ?_) AllReadyH.nil
            go_simp
            refine hK.out _ _ ?_ (fun hHeld => ?_)
            · exact ⟨(hrow C8).2.1, (hrow C8).2.2, C8.cell (List.mem_cons_of_mem _ (List.mem_cons_self ..)) 0, C8.cell (List.mem_cons_of_mem _ (List.mem_cons_self ..)) 1⟩
            clear hK K
            try simp only [Act.put, List.getElem_toArray, List.getElem_cons_succ, List.getElem_cons_zero, List.setIfInBounds_toArray, List.set_cons_zero, List.set_cons_succ]
            refine wpAnyH_take (i := 12) (v := ?_) rfl (by kernel_rfl) (by kernel_rfl) (by kernel_rfl) (fun _ _ _ h => h) (Or.inl ⟨by first | kernel_rfl | rfl, ?_⟩) (by assumption) ?_
            rotate_left
            · intro w hSw; (try dsimp only at hSw); (try go_split_ands); go_simp; first | done | with_reducible rfl
            try simp only [Act.put, List.getElem_toArray, List.getElem_cons_succ, List.getElem_cons_zero, List.setIfInBounds_toArray, List.set_cons_zero, List.set_cons_succ]
            refine wpAnyH_done (by kernel_rfl) ?_ _
            refine NoPanic.normal ?_
            clear z0 z1 f0 f1 C6
            generalize (w6.setCell ⟨q12, 0, none⟩ (.slice A6 n6 c6)).setCell ⟨q12, 1, none⟩ (.slice B6 m6 d6) = w8 at *
            have z0 := C8.cell (List.mem_cons_self ..) 0
            have z1 := C8.cell (List.mem_cons_self ..) 1
            have q0 := C8.cell (List.mem_cons_of_mem _ (List.mem_cons_self ..)) 0
            have q1 := C8.cell (List.mem_cons_of_mem _ (List.mem_cons_self ..)) 1
            have f0 := C8.frozen (List.mem_cons_of_mem _ (List.mem_cons_self ..)) 0
            have f1 := C8.frozen (List.mem_cons_of_mem _ (List.mem_cons_self ..)) 1
            have C9 := ((C8.swap.set 0 (.slice A6 n6 c6)).set 1 (.slice B6 m6 d6)).drop2
            change Ctx _ _ _ ((w8.setCell ⟨q8, 0, none⟩ (.slice A6 n6 c6)).setCell ⟨q8, 1, none⟩ (.slice B6 m6 d6)) _ _ [(q8, #[.slice A6 n6 c6, .slice B6 m6 d6], 67)] _ at C9
            have zz : (z == z) = true := by simp
            clear C8
            go_wp2
            clear z0 z1 q0 q1 f0 f1
            generalize (w8.setCell ⟨q8, 0, none⟩ (.slice A6 n6 c6)).setCell ⟨q8, 1, none⟩ (.slice B6 m6 d6) = w9 at *
            go_roundw
            case rel => exact ⟨k + 1, σ2, A6, n6, c6, B6, m6, d6, hk1, rfl, by go_num, HW2, HN, C9⟩
            case measure => simp [intOf]; omega
    · have hE : k = (l.take 40).length := by omega
      have hsk : σ = deedsS σ0 (l.take 40) := by rw [HS.out, hE, List.take_length]
      have HE := Lib.hid hsk
      have q0 := C3.cell (List.mem_cons_self ..) 0
      have q1 := C3.cell (List.mem_cons_self ..) 1
      have C5 := C3.less (L := fun w X => Lies q5 #[.slice none 0 0, .slice none 0 0] 67 w X ∧ Plus q5 (fun w X => RefS (.agg #[.slice A1 n1 c1, .slice B1 m1 d1]) σ w X ∧ K0 w X) w X) (stable_lies.and (stable_plus _ (stable_refS.and hK))) (fun w X h => ⟨h.2.1, h.1.away h.2.1.1, h.2.2.2⟩)
      have hl4 : wr.heap[q5]? = some (.cells #[.slice none 0 0, .slice none 0 0] 67 (0, 0)) := by
        obtain ⟨X, hX⟩ := C5.know
        exact hX.1.1
      have z0 : wr.drew.cell? ⟨q5, 0, none⟩ = some (.slice none 0 0) := (cell_of_heap hl4 0).trans rfl
      have z1 : wr.drew.cell? ⟨q5, 1, none⟩ = some (.slice none 0 0) := (cell_of_heap hl4 1).trans rfl
      have f0 : wr.drew.frozen? ⟨q5, 0, none⟩ = false := frozen_of_heap hl4 0
      have f1 : wr.drew.frozen? ⟨q5, 1, none⟩ = false := frozen_of_heap hl4 1
      have y0 : wr.cell? ⟨q5, 0, none⟩ = some (.slice none 0 0) := z0
      have y1 : wr.cell? ⟨q5, 1, none⟩ = some (.slice none 0 0) := z1
      have v0 : wr.frozen? ⟨q5, 0, none⟩ = false := f0
      have v1 : wr.frozen? ⟨q5, 1, none⟩ = false := f1
      obtain ⟨C6, h6⟩ := C5.fill (stable_refS.and hK) hq5 (.slice A1 n1 c1) (.slice B1 m1 d1)
      replace C6 := C6.drew
      have h7 : ((wr.setCell ⟨q5, 0, none⟩ (.slice A1 n1 c1)).setCell ⟨q5, 1, none⟩ (.slice B1 m1 d1)).drew.heap[q5]? = some (.cells #[.slice A1 n1 c1, .slice B1 m1 d1] 67 (0, 0)) := h6
      have H7 := Lib.hid h7
      clear C3 C5 HS hsk hl4 h6 h7
      by_cases hkl : k < l.length
      · have g0 : decide ((k : Int) < l.length) = true := decide_eq_true (by omega)
        have g1 : decide ((k : Int) < 40) = false := decide_eq_false (by omega)
        have hk40 : ¬ k < 40 := by omega
        clear hE hlt htl hk
        go_wp2
        refine region_plain (fun w' => w'.cell? ⟨q8, 0, none⟩ = some (.slice A1 n1 c1) ∧ w'.cell? ⟨q8, 1, none⟩ = some (.slice B1 m1 d1)) (by kernel_rfl) ⟨q0, q1⟩ (fun hHeld => ?_)
        refine wpAnyH_take (i := 0) (v := ?_) rfl (by kernel_rfl) (by kernel_rfl) (by kernel_rfl) (fun _ _ _ h => h) (Or.inl ⟨by first | kernel_rfl | rfl, ?_⟩) (by assumption) ?_
        rotate_left
        · intro w hSw; (try dsimp only at hSw); (try go_split_ands); go_simp; first | done | with_reducible rfl
        try simp only [Act.put, List.getElem_toArray, List.getElem_cons_zero, List.setIfInBounds_toArray, List.set_cons_zero, List.set_cons_succ]
        refine wpAnyH_take (i := 1) (v := ?_) rfl (by kernel_rfl) (by kernel_rfl) (by kernel_rfl) (fun _ _ _ h => h) (Or.inl ⟨by first | kernel_rfl | rfl, ?_⟩) (by assumption) ?_
        rotate_left
        · intro w hSw; (try dsimp only at hSw); (try go_split_ands); go_simp; first | done | with_reducible rfl
        try simp only [Act.put, List.getElem_toArray, List.getElem_cons_succ, List.getElem_cons_zero, List.setIfInBounds_toArray, List.set_cons_zero, List.set_cons_succ]
        refine wpAnyH_take (i := 2) (v := ?_) rfl (by kernel_rfl) (by kernel_rfl) (by kernel_rfl) (fun _ _ _ h => h) (Or.inl ⟨by first | kernel_rfl | rfl, ?_⟩) (by assumption) ?_
        rotate_left
        · intro w hSw; (try dsimp only at hSw); (try go_split_ands); go_simp; first | done | with_reducible rfl
        try simp only [Act.put, List.getElem_toArray, List.getElem_cons_succ, List.getElem_cons_zero, List.setIfInBounds_toArray, List.set_cons_zero, List.set_cons_succ]
        refine wpAnyH_take (i := 3) (v := ?_) rfl (by kernel_rfl) (by kernel_rfl) (by kernel_rfl) (fun _ _ _ h => h) (Or.inl ⟨by first | kernel_rfl | rfl, ?_⟩) (by assumption) ?_
        rotate_left
        · intro w hSw; (try dsimp only at hSw); (try go_split_ands); go_simp; first | done | with_reducible rfl
        try simp only [Act.put, List.getElem_toArray, List.getElem_cons_succ, List.getElem_cons_zero, List.setIfInBounds_toArray, List.set_cons_zero, List.set_cons_succ]
        refine wpAnyH_ready (rs := [4]) (by kernel_rfl) (by simp) ?_
        refine AllReadyH.cons rfl (fun K hK => ?_) AllReadyH.nil
        go_simp
        refine hK.out _ _ ?_ (fun hHeld => ?_)
        · exact ⟨C6.cell (List.mem_cons_self ..) 0, C6.cell (List.mem_cons_self ..) 1⟩
        clear hK K
        try simp only [Act.put, List.getElem_toArray, List.getElem_cons_succ, List.getElem_cons_zero, List.setIfInBounds_toArray, List.set_cons_zero, List.set_cons_succ]
        refine wpAnyH_take (i := 5) (v := ?_) rfl (by kernel_rfl) (by kernel_rfl) (by kernel_rfl) (fun _ _ _ h => h) (Or.inl ⟨by first | kernel_rfl | rfl, ?_⟩) (by assumption) ?_
        rotate_left
        · intro w hSw; (try dsimp only at hSw); (try go_split_ands); go_simp; first | done | with_reducible rfl
        try simp only [Act.put, List.getElem_toArray, List.getElem_cons_succ, List.getElem_cons_zero, List.setIfInBounds_toArray, List.set_cons_zero, List.set_cons_succ]
        refine wpAnyH_done (by kernel_rfl) ?_ _
        refine NoPanic.normal ?_
        clear z0 z1 f0 f1 q0 q1 y0 y1 v0 v1
        generalize ((wr.setCell ⟨q5, 0, none⟩ (.slice A1 n1 c1)).setCell ⟨q5, 1, none⟩ (.slice B1 m1 d1)).drew = w9 at *
        go_wp2
        refine bodyPost_ret (results_tct rfl rfl rfl rfl H7.out) rfl ?_
        refine ⟨base, p, A1, n1, c1, B1, m1, d1, rfl, ?_⟩
        rw [HS0.out, ← HE.out]
        exact C6.bare
      · have g0 : decide ((k : Int) < l.length) = false := decide_eq_false (by omega)
        have hk40 : k < 40 ∨ True := .inr trivial
        clear hE hlt htl hk hk40
        go_wp2
        refine region_plain (fun w' => w'.cell? ⟨q8, 0, none⟩ = some (.slice A1 n1 c1) ∧ w'.cell? ⟨q8, 1, none⟩ = some (.slice B1 m1 d1)) (by kernel_rfl) ⟨q0, q1⟩ (fun hHeld => ?_)
        refine wpAnyH_take (i := 0) (v := ?_) rfl (by kernel_rfl) (by kernel_rfl) (by kernel_rfl) (fun _ _ _ h => h) (Or.inl ⟨by first | kernel_rfl | rfl, ?_⟩) (by assumption) ?_
        rotate_left
        · intro w hSw; (try dsimp only at hSw); (try go_split_ands); go_simp; first | done | with_reducible rfl
        try simp only [Act.put, List.getElem_toArray, List.getElem_cons_zero, List.setIfInBounds_toArray, List.set_cons_zero, List.set_cons_succ]
        refine wpAnyH_take (i := 1) (v := ?_) rfl (by kernel_rfl) (by kernel_rfl) (by kernel_rfl) (fun _ _ _ h => h) (Or.inl ⟨by first | kernel_rfl | rfl, ?_⟩) (by assumption) ?_
        rotate_left
        · intro w hSw; (try dsimp only at hSw); (try go_split_ands); go_simp; first | done | with_reducible rfl
        try simp only [Act.put, List.getElem_toArray, List.getElem_cons_succ, List.getElem_cons_zero, List.setIfInBounds_toArray, List.set_cons_zero, List.set_cons_succ]
        refine wpAnyH_take (i := 2) (v := ?_) rfl (by kernel_rfl) (by kernel_rfl) (by kernel_rfl) (fun _ _ _ h => h) (Or.inl ⟨by first | kernel_rfl | rfl, ?_⟩) (by assumption) ?_
        rotate_left
        · intro w hSw; (try dsimp only at hSw); (try go_split_ands); go_simp; first | done | with_reducible rfl
        try simp only [Act.put, List.getElem_toArray, List.getElem_cons_succ, List.getElem_cons_zero, List.setIfInBounds_toArray, List.set_cons_zero, List.set_cons_succ]
        refine wpAnyH_take (i := 3) (v := ?_) rfl (by kernel_rfl) (by kernel_rfl) (by kernel_rfl) (fun _ _ _ h => h) (Or.inl ⟨by first | kernel_rfl | rfl, ?_⟩) (by assumption) ?_
        rotate_left
        · intro w hSw; (try dsimp only at hSw); (try go_split_ands); go_simp; first | done | with_reducible rfl
        try simp only [Act.put, List.getElem_toArray, List.getElem_cons_succ, List.getElem_cons_zero, List.setIfInBounds_toArray, List.set_cons_zero, List.set_cons_succ]
        refine wpAnyH_ready (rs := [4]) (by kernel_rfl) (by simp) ?_
        refine AllReadyH.cons rfl (fun K hK => ?_) AllReadyH.nil
        go_simp
        refine hK.out _ _ ?_ (fun hHeld => ?_)
        · exact ⟨C6.cell (List.mem_cons_self ..) 0, C6.cell (List.mem_cons_self ..) 1⟩
        clear hK K
        try simp only [Act.put, List.getElem_toArray, List.getElem_cons_succ, List.getElem_cons_zero, List.setIfInBounds_toArray, List.set_cons_zero, List.set_cons_succ]
        refine wpAnyH_take (i := 5) (v := ?_) rfl (by kernel_rfl) (by kernel_rfl) (by kernel_rfl) (fun _ _ _ h => h) (Or.inl ⟨by first | kernel_rfl | rfl, ?_⟩) (by assumption) ?_
        rotate_left
        · intro w hSw; (try dsimp only at hSw); (try go_split_ands); go_simp; first | done | with_reducible rfl
        try simp only [Act.put, List.getElem_toArray, List.getElem_cons_succ, List.getElem_cons_zero, List.setIfInBounds_toArray, List.set_cons_zero, List.set_cons_succ]
        refine wpAnyH_done (by kernel_rfl) ?_ _
        refine NoPanic.normal ?_
        clear z0 z1 f0 f1 q0 q1 y0 y1 v0 v1
        generalize ((wr.setCell ⟨q5, 0, none⟩ (.slice A1 n1 c1)).setCell ⟨q5, 1, none⟩ (.slice B1 m1 d1)).drew = w9 at *
        go_wp2
        refine bodyPost_ret (results_tct rfl rfl rfl rfl H7.out) rfl ?_
        refine ⟨base, p, A1, n1, c1, B1, m1, d1, rfl, ?_⟩
        rw [HS0.out, ← HE.out]
        exact C6.bare
end Go.Proofs.Ck
