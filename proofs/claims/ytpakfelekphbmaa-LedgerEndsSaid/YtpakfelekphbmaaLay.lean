/- Blocks laid into the document: the walk. -/
import Derived.Test.YtpakfelekphbmaaGr7
namespace Go.Proofs.Ck
open Go Go.RowKit

/-- Pieces, cell by cell. -/
def pcs (l : List (Nat × Nat × Nat)) : List Value := l.flatMap fun d => [.int .u8 (d.1 : Int), .int .u8 (d.2.1 : Int), .int .u16 (d.2.2 : Int)]
theorem pcs_length (l : List (Nat × Nat × Nat)) : (pcs l).length = l.length * 3 := by
  induction l with
  | nil => rfl
  | cons d l ih =>
    have e : pcs (d :: l) = .int .u8 (d.1 : Int) :: .int .u8 (d.2.1 : Int) :: .int .u16 (d.2.2 : Int) :: pcs l := rfl
    rw [e]
    simp only [List.length_cons, ih]
    omega
theorem pcs_get {l : List (Nat × Nat × Nat)} {i : Nat} {d : Nat × Nat × Nat} (h : l[i]? = some d) : (pcs l)[i * 3]? = some (.int .u8 (d.1 : Int)) ∧ (pcs l)[i * 3 + 1]? = some (.int .u8 (d.2.1 : Int)) ∧ (pcs l)[i * 3 + 2]? = some (.int .u16 (d.2.2 : Int)) := by
  induction l generalizing i with
  | nil => simp at h
  | cons e l ih =>
    have he : pcs (e :: l) = .int .u8 (e.1 : Int) :: .int .u8 (e.2.1 : Int) :: .int .u16 (e.2.2 : Int) :: pcs l := rfl
    cases i with
    | zero =>
      simp only [List.getElem?_cons_zero, Option.some.injEq] at h
      subst h
      exact ⟨rfl, rfl, rfl⟩
    | succ i =>
      rw [he, show (i + 1) * 3 = i * 3 + 1 + 1 + 1 by omega]
      simp only [List.getElem?_cons_succ] at h ⊢
      exact ih h
theorem results_c67 {fn : Func} {tmps : Array Value} {p : Tmp} {W : World} {g : Nat} {a b : Value} {fr : Nat × Nat} (hf : fn.results = #[.cell p 67])
    (hp : tmps.getD p undef = .pointer (some ⟨g, 0, none⟩)) (hg : W.heap[g]? = some (.cells #[a, b] 67 fr)) :
    (results fn tmps).run Try.prog W = .ok (.agg #[a, b]) W := by
  have hp' : tmps[p]?.getD undef = .pointer (some ⟨g, 0, none⟩) := by simpa using hp
  have c0 : W.cell? ⟨g, 0, none⟩ = some a := by rw [cell_of_heap hg]; rfl
  have c1 : W.cell? ⟨g, 1, none⟩ = some b := by rw [cell_of_heap hg]; rfl
  simp only [results, hf]
  go_simp
theorem write_ok {σ : St} {E off s o : Nat} {u : Bool} (h : layB E off s u o = true) : writeS σ E off s u o = (σ.store off (packG s u o)).store (off + s - 8) (packG s u o) ∧ writeE E off s u o = 0 := by
  unfold writeS writeE
  rw [if_pos h, if_pos h]
  exact ⟨rfl, rfl⟩
theorem lay_more {off : Nat} {q : Nat × Nat × Nat} (h16 : off % 16 = 0) (h : 3776 ≤ off) (h2 : off + pS q + 48 ≤ 4800) : layB 4800 off (pS q) (pU q) (pO q) = true := by
  have hp := pS_le q
  rw [layB_iff]
  exact ⟨(mayG_iff _ _ _).1 (may_piece q), h16, h, by omega, by omega⟩
theorem lay_last {off : Nat} (h16 : off % 16 = 0) (h : 3776 ≤ off) (h2 : off + 48 ≤ 4800) : layB 4800 off (4800 - off) false 0 = true := by
  rw [layB_iff]
  exact ⟨⟨by omega, by omega, by omega, by omega, .inr rfl⟩, h16, h, by omega, by omega⟩
theorem layS_stop {σ : St} {off : Nat} {l : List (Nat × Nat × Nat)} (h : l = [] ∨ ∃ q r, l = q :: r ∧ 4800 < off + pS q + 48) : layS 4800 σ off l = (σ.store off (packG (4800 - off) false 0)).store (off + (4800 - off) - 8) (packG (4800 - off) false 0) := by
  rcases h with rfl | ⟨q, r, rfl, hq⟩
  · rfl
  · unfold layS; rw [if_pos hq]
theorem layS_go {σ : St} {off : Nat} {q : Nat × Nat × Nat} {r : List (Nat × Nat × Nat)} (h : ¬ 4800 < off + pS q + 48) : layS 4800 σ off (q :: r) = layS 4800 (layOne σ off q) (off + pS q) r := by
  rw [layS, if_neg h]

theorem row_off {S : Nat → Prop} {w : World} {A : Option Addr} {n k q : Nat} {xs : List Value} {a b : Value} (h : Row S w A n k xs) (hq : w.heap[q]? = some (.cells #[a, b] 67 (0, 0))) (ha : ∀ u ∈ xs, u ≠ a ∧ u ≠ b) : Row (fun x => S x ∧ x ≠ q) w A n k xs := by
  refine ⟨h.len, fun hp => ?_⟩
  obtain ⟨c, off, e, hs, hc⟩ := h.at_ hp
  refine ⟨c, off, e, ⟨hs, fun ec => ?_⟩, hc⟩
  subst ec
  have h0 := hc 0 _ (List.getElem?_eq_getElem hp)
  rw [cell_of_heap hq] at h0
  have hm := ha _ (List.getElem_mem hp)
  simp only [Nat.add_zero] at h0
  match off with
  | 0 => simp at h0; exact hm.1 h0.symm
  | 1 => simp at h0; exact hm.2 h0.symm
  | n + 2 => simp at h0
theorem refS_off {w : World} {q : Nat} {X : Nat → Prop} {σ : St} {rv : Value} {A B : Option Addr} {n c m d : Nat} (h : RefS rv σ w X) (hq : w.heap[q]? = some (.cells #[.slice A n c, .slice B m d] 67 (0, 0))) : RefS rv σ w fun b => X b ∨ b = q := by
  obtain ⟨A', c', B', d', h1, h2, h3, h4⟩ := h
  refine ⟨A', c', B', d', h1, (row_off (show Row _ _ _ _ _ _ from h2) hq (fun u hu => ?_)).mono fun b _ hb hx => ?_, (row_off (show Row _ _ _ _ _ _ from h3) hq (fun u hu => ?_)).mono fun b _ hb hx => ?_, h4⟩
  · obtain ⟨x, _, rfl⟩ := List.mem_map.1 hu
    exact ⟨fun e => (by cases e), fun e => (by cases e)⟩
  · rcases hx with hx | hx
    · exact hb.1 hx
    · exact hb.2 hx
  · unfold puts at hu
    rw [List.mem_flatMap] at hu
    obtain ⟨x, _, hx⟩ := hu
    simp only [List.mem_cons, List.not_mem_nil, or_false] at hx
    rcases hx with rfl | rfl <;> exact ⟨fun e => (by cases e), fun e => (by cases e)⟩
  · rcases hx with hx | hx
    · exact hb.1 hx
    · exact hb.2 hx

set_option maxRecDepth 100000 in
set_option maxHeartbeats 16000000 in
theorem rlayS {rv : Value} {σ0 : St} {w : World} {X : Nat → Prop} {D : Option Addr} {cD : Nat} {l : List (Nat × Nat × Nat)} (h : RefS rv σ0 w X) (hX : ∀ b, X b → b < w.heap.size) (hfS : FineS σ0) (hE : σ0.load 16 = 4800)
    (hD : Row (fun b => b < w.heap.size) w D l.length 3 (pcs l)) (hl : l.length ≤ 9223372036854775807) (hb : ∀ q ∈ l, q.1 < 256 ∧ q.2.1 < 256 ∧ q.2.2 < 65536) :
    Calls Try.prog 167 #[rv, .slice D l.length cD] w fun e w' => ∃ rv', e = .returned rv' ∧ RefS rv' (layS 4800 σ0 3776 l) w' X ∧ Grow w w' := by
  obtain ⟨A, n, c, B, m, d, rfl⟩ := h.agg
  obtain ⟨wa, hwa⟩ : ∃ wa, (w.alloc (.cells #[.slice A n c, .slice B m d] 67)).alloc (.cells #[.slice none 0 0, .slice none 0 0] 67) = wa := ⟨_, rfl⟩
  have hga : Grow w wa := by rw [← hwa]; exact ((Below.refl _ _).alloc (Nat.le_refl _) _).alloc (by simp) _
  have hB : wa.heap[w.heap.size]? = some (.cells #[.slice A n c, .slice B m d] 67 (0, 0)) := by
    rw [← hwa]; exact (Below.heap_alloc _ _ _ (by simp)).trans (World.alloc_heap_new w _)
  have hT : wa.heap[w.heap.size + 1]? = some (.cells #[.slice none 0 0, .slice none 0 0] 67 (0, 0)) := by
    have := World.alloc_heap_new (w.alloc (.cells #[.slice A n c, .slice B m d] 67)) (.cells #[.slice none 0 0, .slice none 0 0] 67)
    rw [World.size_alloc] at this
    rw [← hwa]; exact this
  have h1 : RefS (.agg #[.slice A n c, .slice B m d]) σ0 wa (fun b => X b ∨ b = w.heap.size ∨ b = w.heap.size + 1) := stable_refS _ _ _ _ ⟨Only.of_below hga, fun b hb => by
    rcases hb with hb | hb
    · exact .inl hb
    · exact .inr (by omega)⟩ h
  have hX1 : ∀ b, (X b ∨ b = w.heap.size ∨ b = w.heap.size + 1) → b < wa.heap.size := fun b hb => by
    rcases hb with hb | hb | hb
    · exact Nat.lt_of_lt_of_le (hX b hb) hga.size
    · rw [hb]; exact lt_of_heap hB
    · rw [hb]; exact lt_of_heap hT
  have hld := (h1.ref hfS.fine).load 16 (by omega)
  rw [hE] at hld
  have a0 : wa.cell? ⟨w.heap.size, 0, none⟩ = some (.slice A n c) := by rw [cell_of_heap hB]; rfl
  have a1 : wa.cell? ⟨w.heap.size, 1, none⟩ = some (.slice B m d) := by rw [cell_of_heap hB]; rfl
  clear h
  go_enter Try.func167, Try.ntmps167
  go_wp2_with fail
  refine (show Calls _ _ #[_, .int .u64 16] _ _ from hld).mono ?_
  rintro e w1 ⟨rfl, hg1⟩
  have hB1 := hg1.heap hB
  have hT1 := hg1.heap hT
  have hR1 := h1.grow hg1
  have hG1 := hga.trans hg1
  have hz1 := hg1.size
  clear hld a0 a1 hwa hB hT h1 hga hg1
  go_wp2_with fail
  go_loopw [5, 7] (fun t5 t7 W => ∃ (k off : Nat) (σ : St) (A : Option Addr) (n c : Nat) (B : Option Addr) (m d : Nat), k ≤ l.length ∧ t5 = .int .u64 (off : Int) ∧ t7 = .int .i64 (k : Int) ∧ W.heap[w.heap.size]? = some (.cells #[.slice A n c, .slice B m d] 67 (0, 0)) ∧
      W.heap[w.heap.size + 1]? = some (.cells #[.slice none 0 0, .slice none 0 0] 67 (0, 0)) ∧ RefS (.agg #[.slice A n c, .slice B m d]) σ W (fun b => X b ∨ b = w.heap.size ∨ b = w.heap.size + 1) ∧ Grow w W ∧ wa.heap.size ≤ W.heap.size ∧
      Hid (FineS σ ∧ σ.load 16 = 4800 ∧ off % 16 = 0 ∧ 3776 ≤ off ∧ off + 48 ≤ 4800 ∧ layS 4800 σ0 3776 l = layS 4800 σ off (l.drop k))) (fun _ t7 _ => l.length - (intOf t7).toNat)
  case atStart => exact ⟨0, 3776, σ0, A, n, c, B, m, d, Nat.zero_le _, rfl, rfl, hB1, hT1, hR1, hG1, hz1, Lib.hid ⟨hfS, hE, by omega, by omega, by omega, rfl⟩⟩
  case round =>
    clear hB1 hT1 hR1 hG1 hz1 hE hfS
    obtain ⟨k, off, σ, A, n, c, B, m, d, hk, rfl, rfl, hBwr, hTwr, hRwr, hGwr, hzwr, HH⟩ := hrel
    obtain ⟨-, -, h16, h3776, h48, -⟩ := HH.out
    have s1 : IntKind.u64.wrap (4800 - (off : Int)) = ((4800 - off : Nat) : Int) := by rw [IntKind.wrap_u64]; omega
    by_cases hlt : k < l.length
    · have g0 : decide ((k : Int) < l.length) = true := decide_eq_true (by omega)
      obtain ⟨q, hq⟩ : ∃ q, l[k]? = some q := ⟨_, List.getElem?_eq_getElem hlt⟩
      have hdr : l.drop k = q :: l.drop (k + 1) := by
        rw [List.drop_eq_getElem_cons hlt]
        rw [List.getElem?_eq_getElem hlt, Option.some.injEq] at hq
        rw [hq]
      obtain ⟨hb1, hb2, hb3⟩ := hb q (List.mem_of_getElem? hq)
      obtain ⟨e1, e2, e3⟩ := pcs_get hq
      have rows : ∀ {W : World}, Grow w W → ∃ b o, D = some ⟨b, o, none⟩ ∧ W.cell? ⟨b, o + k * 3, none⟩ = some (.int .u8 (q.1 : Int)) ∧ W.cell? ⟨b, o + k * 3 + 1, none⟩ = some (.int .u8 (q.2.1 : Int)) ∧ W.cell? ⟨b, o + k * 3 + 2, none⟩ = some (.int .u16 (q.2.2 : Int)) := fun {W} hW => by
        obtain ⟨b, o, hb, -, hc⟩ := (hD.grow hW).pos (by omega) (by omega)
        exact ⟨b, o, hb, hc _ _ e1, by have := hc _ _ e2; rwa [← Nat.add_assoc] at this, by have := hc _ _ e3; rwa [← Nat.add_assoc] at this⟩
      obtain ⟨b, o, hDb, x0, x1, x2⟩ := rows hGwr
      have hsp := pS_le q
      have hpo := pO_le q
      have hSd : pS q = 48 + 16 * (q.1 % 8) := rfl
      have hUd : pU q = decide (0 < q.2.1 % 10) := rfl
      have hOd : pO q = q.2.1 % 10 - 1 := rfl
      have hLd : pL q = q.2.2 % (pS q - 39) := rfl
      have hLl := pL_le q
      have lay1 := fun (hh : off + pS q + 48 ≤ 4800) => lay_more (q := q) h16 h3776 hh
      have wr1 := fun (hh : off + pS q + 48 ≤ 4800) => write_ok (σ := σ) (lay1 hh)
      have stp := fun (hh : 4800 < off + pS q + 48) => layS_stop (σ := σ) (off := off) (l := q :: l.drop (k + 1)) (.inr ⟨q, _, rfl, hh⟩)
      have gon := fun (hh : ¬ 4800 < off + pS q + 48) => layS_go (σ := σ) (off := off) (q := q) (r := l.drop (k + 1)) hh
      have one : layOne σ off q = if pU q = true then ((σ.store off (packG (pS q) (pU q) (pO q))).store (off + pS q - 8) (packG (pS q) (pU q) (pO q))).store (off + 8) (pL q) else (σ.store off (packG (pS q) (pU q) (pO q))).store (off + pS q - 8) (packG (pS q) (pU q) (pO q)) := rfl
      have onef := fun (hh : off + pS q ≤ 4800) => layOne_load (σ := σ) (HH.out.1.words) q h16 hh (o := 16) (.inl (by omega))
      rw [hdr] at HH
      obtain ⟨r8, hr8⟩ : ∃ r, q.1 % 8 = r := ⟨_, rfl⟩
      obtain ⟨r10, hr10⟩ : ∃ r, q.2.1 % 10 = r := ⟨_, rfl⟩
      obtain ⟨x, y, z⟩ := q
      simp only at hb1 hb2 hb3 x0 x1 x2 hSd hUd hOd hLd hr8 hr10
      have m1 : IntKind.u8.wrap ((x : Int) % 8) = (r8 : Int) := by rw [IntKind.wrap_u8]; omega
      have m2 : (x : Int) % 8 = (r8 : Int) := by omega
      have m3 : (x : Int).tmod 8 = (r8 : Int) := by rw [Int.tmod_eq_emod_of_nonneg (by omega)]; omega
      have m4 : IntKind.u8.wrap (r8 : Int) = (r8 : Int) := by rw [IntKind.wrap_u8]; omega
      have m5 : IntKind.u64.wrap (r8 : Int) = (r8 : Int) := by rw [IntKind.wrap_u64]; omega
      have m6 : IntKind.u64.wrap (16 * (r8 : Int)) = 16 * (r8 : Int) := by rw [IntKind.wrap_u64]; omega
      have n1' : IntKind.u8.wrap ((y : Int) % 10) = (r10 : Int) := by rw [IntKind.wrap_u8]; omega
      have n2' : (y : Int) % 10 = (r10 : Int) := by omega
      have n3' : (y : Int).tmod 10 = (r10 : Int) := by rw [Int.tmod_eq_emod_of_nonneg (by omega)]; omega
      have n4' : IntKind.u8.wrap (r10 : Int) = (r10 : Int) := by rw [IntKind.wrap_u8]; omega
      have n5' : IntKind.i64.wrap (r10 : Int) = (r10 : Int) := by rw [IntKind.wrap_i64]; omega
      generalize hsG : pS (x, y, z) = s at *
      generalize huG : pU (x, y, z) = u at *
      generalize hoG : pO (x, y, z) = ow at *
      generalize hlG : pL (x, y, z) = ln at *
      have m7 : IntKind.u64.wrap (48 + 16 * (r8 : Int)) = (s : Int) := by rw [IntKind.wrap_u64]; omega
      have p1 : IntKind.u64.wrap ((off : Int) + (s : Int)) = ((off + s : Nat) : Int) := by rw [IntKind.wrap_u64]; omega
      have p2 : IntKind.u64.wrap (((off + s : Nat) : Int) + 48) = ((off + s + 48 : Nat) : Int) := by rw [IntKind.wrap_u64]; omega
      have p3 : IntKind.u64.wrap ((off : Int) + 8) = ((off + 8 : Nat) : Int) := by rw [IntKind.wrap_u64]; omega
      have p4 : IntKind.u64.wrap ((z : Int)) = (z : Int) := by rw [IntKind.wrap_u64]; omega
      have p5 : IntKind.u64.wrap ((s : Int) - 39) = ((s - 39 : Nat) : Int) := by rw [IntKind.wrap_u64]; omega
      have p6 : IntKind.u64.wrap ((z : Int) % ((s - 39 : Nat) : Int)) = (ln : Int) := by rw [hLd, IntKind.wrap_u64, ← Int.natCast_emod]; have := Nat.mod_lt z (show 0 < s - 39 by omega); omega
      have p7 : (z : Int) % ((s - 39 : Nat) : Int) = (ln : Int) := by rw [hLd, Int.natCast_emod]
      have p8 : (z : Int).tmod ((s - 39 : Nat) : Int) = (ln : Int) := by rw [Int.tmod_eq_emod_of_nonneg (by omega)]; exact p7
      have p9 : IntKind.u64.wrap (ln : Int) = (ln : Int) := by rw [IntKind.wrap_u64]; omega
      have p10 : (((s - 39 : Nat) : Int) == 0) = false := by rw [beq_eq_false_iff_ne]; omega
      have p11 : ¬ (s - 39 = 0) := by omega
      have q1 : IntKind.i64.wrap ((r10 : Int) - 1) = (r10 : Int) - 1 := by rw [IntKind.wrap_i64]; omega
      have gi0 : (0 : Int) ≤ k := by omega
      have gi1 : (k : Int) < l.length := by omega
      have tU : decide ((0 : Int) < (r10 : Int)) = u := by rw [hUd]; exact decD (by omega)
      have KK := Lib.hid (⟨lay1, wr1, stp, gon, one, onef⟩ : _ ∧ _ ∧ _ ∧ _ ∧ _ ∧ _)
      have HL := Lib.hid hLl
      clear lay1 wr1 stp gon one onef hq hdr e1 e2 e3 hUd hLd hSd hb1 hb2 hb3
      subst hDb
      have y1 : ∀ {W : World}, Grow w W → W.cell? ⟨b, o + k * 3, none⟩ = some (.int .u8 (x : Int)) ∧ W.cell? ⟨b, o + k * 3 + 1, none⟩ = some (.int .u8 (y : Int)) ∧ W.cell? ⟨b, o + k * 3 + 2, none⟩ = some (.int .u16 (z : Int)) := fun {W} hW => by
        obtain ⟨b', o', hb', h1, h2, h3⟩ := rows hW
        cases hb'
        exact ⟨h1, h2, h3⟩
      by_cases hbr : 4800 < off + s + 48
      · have tE : decide ((4800 : Int) < ((off + s + 48 : Nat) : Int)) = true := decide_eq_true (by omega)
        cases u
        · have hr0 : r10 = 0 := by have := of_decide_eq_false tU; omega
          subst hr0
          simp only [Int.ofNat_zero] at n1' n2' n3' n4' n5'
          clear tU
          have alA := World.alloc_heap_new wr (.cells #[.int .u64 (s : Int), .bool false, .int .i64 0] 211)
          have cA0 : (wr.alloc (.cells #[.int .u64 (s : Int), .bool false, .int .i64 0] 211)).cell? ⟨wr.heap.size, 0, none⟩ = some (.int .u64 (s : Int)) := by rw [cell_of_heap alA]; rfl
          have fA0 := frozen_of_heap alA 0
          have cA1 : (wr.alloc (.cells #[.int .u64 (s : Int), .bool false, .int .i64 0] 211)).cell? ⟨wr.heap.size, 1, none⟩ = some (.bool false) := by rw [cell_of_heap alA]; rfl
          have fA1 := frozen_of_heap alA 1
          have cA2 : (wr.alloc (.cells #[.int .u64 (s : Int), .bool false, .int .i64 0] 211)).cell? ⟨wr.heap.size, 2, none⟩ = some (.int .i64 0) := by rw [cell_of_heap alA]; rfl
          have fA2 := frozen_of_heap alA 2
          have grA : Grow wr (wr.alloc (.cells #[.int .u64 (s : Int), .bool false, .int .i64 0] 211)) := (Below.refl _ _).alloc (Nat.le_refl _) _
          obtain ⟨yA0, yA1, yA2⟩ := y1 (hGwr.trans grA)
          have bA0 : (wr.alloc (.cells #[.int .u64 (s : Int), .bool false, .int .i64 0] 211)).cell? ⟨w.heap.size, 0, none⟩ = some (.slice A n c) := by rw [cell_of_heap (grA.heap hBwr)]; rfl
          have bA1 : (wr.alloc (.cells #[.int .u64 (s : Int), .bool false, .int .i64 0] 211)).cell? ⟨w.heap.size, 1, none⟩ = some (.slice B m d) := by rw [cell_of_heap (grA.heap hBwr)]; rfl
          go_wp2_with fail
          have hBw5 := grA.heap hBwr
          have hTw5 := grA.heap hTwr
          have hRw5 := hRwr.grow grA
          have hGw5 := hGwr.trans grA
          have hzw5 := Nat.le_trans hzwr grA.size
          clear alA cA0 fA0 yA0 cA1 fA1 yA1 cA2 fA2 yA2 bA0 bA1 grA
          clear m1 m2 m3 m4 m5 m6 m7 n1' n2' n3' n4' n5' p1 p2 p3 p4 p5 p6 p7 p8 p9 p10 p11 q1 y1
          have hlb := lay_last h16 h3776 h48
          obtain ⟨we, wz⟩ := write_ok (σ := σ) hlb
          have hwr := rwriteS hRw5 (fun b hb => Nat.lt_of_lt_of_le (hX1 b hb) hzw5) HH.out.1 off (4800 - off) 0 4800 false HH.out.2.1 (by omega) (by omega) (by omega) (by omega)
          rw [we, wz] at hwr
          have hres := HH.out.2.2.2.2.2.trans (KK.out.2.2.1 hbr)
          rw [← hres] at hwr
          have HW := Lib.hid hwr
          clear hres hwr we wz hlb
          refine Calls.mono (show Calls _ _ #[_, _, .agg #[_, _, .int .i64 0]] _ _ from HW.out) ?_
          rintro e wf ⟨rvf, rfl, hRf, hgf⟩
          obtain ⟨Af, nf, cf, Bf, mf, df, rfl⟩ := hRf.agg
          clear HW
          have gf := World.alloc_heap_new wf (.cells #[.slice Af nf cf, .slice Bf mf df] 67)
          have ggf : Grow wf (wf.alloc (.cells #[.slice Af nf cf, .slice Bf mf df] 67)) := (Below.refl _ _).alloc (Nat.le_refl _) _
          have hTf := (hgf.trans ggf).heap hTw5
          have hRg := hRf.grow ggf
          have hGf := hGw5.trans (hgf.trans ggf)
          have k0 : (wf.alloc (.cells #[.slice Af nf cf, .slice Bf mf df] 67)).cell? ⟨wf.heap.size, 0, none⟩ = some (.slice Af nf cf) := by rw [cell_of_heap gf]; rfl
          have k1 : (wf.alloc (.cells #[.slice Af nf cf, .slice Bf mf df] 67)).cell? ⟨wf.heap.size, 1, none⟩ = some (.slice Bf mf df) := by rw [cell_of_heap gf]; rfl
          have k2 : (wf.alloc (.cells #[.slice Af nf cf, .slice Bf mf df] 67)).cell? ⟨w.heap.size + 1, 0, none⟩ = some (.slice none 0 0) := by rw [cell_of_heap hTf]; rfl
          have k3 : (wf.alloc (.cells #[.slice Af nf cf, .slice Bf mf df] 67)).cell? ⟨w.heap.size + 1, 1, none⟩ = some (.slice none 0 0) := by rw [cell_of_heap hTf]; rfl
          have k4 := frozen_of_heap hTf 0
          have k5 := frozen_of_heap hTf 1
          have r1 := heap_same2 (a := .slice Af nf cf) (b := .slice Bf mf df) hTf
          have r2 := refS_less (refS_set (q := w.heap.size + 1) (a := .slice Af nf cf) (b := .slice Bf mf df) hRg (.inr (.inr rfl)))
          have r3 := grow_set2 (q := w.heap.size + 1) (a := .slice Af nf cf) (b := .slice Bf mf df) hGf (by omega)
          have R1 := Lib.hid r1
          have R2 := Lib.hid r2
          have R3 := Lib.hid r3
          clear r1 r2 r3 gf ggf hTf hRg hGf hRf hgf
          go_wp2
          exact bodyPost_ret (results_c67 (g := w.heap.size + 1) (fr := (0, 0)) rfl rfl R1.out) rfl ⟨_, rfl, R2.out, R3.out⟩
        · have ho1 : (r10 : Int) - 1 = (ow : Int) := by have := of_decide_eq_true tU; omega
          have hpos : 0 < r10 := by have := of_decide_eq_true tU; omega
          rw [ho1] at q1
          clear hOd
          have alA := World.alloc_heap_new wr (.cells #[.int .u64 (s : Int), .bool false, .int .i64 0] 211)
          have cA0 : (wr.alloc (.cells #[.int .u64 (s : Int), .bool false, .int .i64 0] 211)).cell? ⟨wr.heap.size, 0, none⟩ = some (.int .u64 (s : Int)) := by rw [cell_of_heap alA]; rfl
          have fA0 := frozen_of_heap alA 0
          have cA1 : (wr.alloc (.cells #[.int .u64 (s : Int), .bool false, .int .i64 0] 211)).cell? ⟨wr.heap.size, 1, none⟩ = some (.bool false) := by rw [cell_of_heap alA]; rfl
          have fA1 := frozen_of_heap alA 1
          have cA2 : (wr.alloc (.cells #[.int .u64 (s : Int), .bool false, .int .i64 0] 211)).cell? ⟨wr.heap.size, 2, none⟩ = some (.int .i64 0) := by rw [cell_of_heap alA]; rfl
          have fA2 := frozen_of_heap alA 2
          have grA : Grow wr (wr.alloc (.cells #[.int .u64 (s : Int), .bool false, .int .i64 0] 211)) := (Below.refl _ _).alloc (Nat.le_refl _) _
          obtain ⟨yA0, yA1, yA2⟩ := y1 (hGwr.trans grA)
          have bA0 : (wr.alloc (.cells #[.int .u64 (s : Int), .bool false, .int .i64 0] 211)).cell? ⟨w.heap.size, 0, none⟩ = some (.slice A n c) := by rw [cell_of_heap (grA.heap hBwr)]; rfl
          have bA1 : (wr.alloc (.cells #[.int .u64 (s : Int), .bool false, .int .i64 0] 211)).cell? ⟨w.heap.size, 1, none⟩ = some (.slice B m d) := by rw [cell_of_heap (grA.heap hBwr)]; rfl
          have alB := World.alloc_heap_new wr (.cells #[.int .u64 (s : Int), .bool true, .int .i64 0] 211)
          have cB0 : (wr.alloc (.cells #[.int .u64 (s : Int), .bool true, .int .i64 0] 211)).cell? ⟨wr.heap.size, 0, none⟩ = some (.int .u64 (s : Int)) := by rw [cell_of_heap alB]; rfl
          have fB0 := frozen_of_heap alB 0
          have cB1 : (wr.alloc (.cells #[.int .u64 (s : Int), .bool true, .int .i64 0] 211)).cell? ⟨wr.heap.size, 1, none⟩ = some (.bool true) := by rw [cell_of_heap alB]; rfl
          have fB1 := frozen_of_heap alB 1
          have cB2 : (wr.alloc (.cells #[.int .u64 (s : Int), .bool true, .int .i64 0] 211)).cell? ⟨wr.heap.size, 2, none⟩ = some (.int .i64 0) := by rw [cell_of_heap alB]; rfl
          have fB2 := frozen_of_heap alB 2
          have grB : Grow wr (wr.alloc (.cells #[.int .u64 (s : Int), .bool true, .int .i64 0] 211)) := (Below.refl _ _).alloc (Nat.le_refl _) _
          obtain ⟨yB0, yB1, yB2⟩ := y1 (hGwr.trans grB)
          have bB0 : (wr.alloc (.cells #[.int .u64 (s : Int), .bool true, .int .i64 0] 211)).cell? ⟨w.heap.size, 0, none⟩ = some (.slice A n c) := by rw [cell_of_heap (grB.heap hBwr)]; rfl
          have bB1 : (wr.alloc (.cells #[.int .u64 (s : Int), .bool true, .int .i64 0] 211)).cell? ⟨w.heap.size, 1, none⟩ = some (.slice B m d) := by rw [cell_of_heap (grB.heap hBwr)]; rfl
          have alC := World.alloc_heap_new wr (.cells #[.int .u64 (s : Int), .bool true, .int .i64 (ow : Int)] 211)
          have cC0 : (wr.alloc (.cells #[.int .u64 (s : Int), .bool true, .int .i64 (ow : Int)] 211)).cell? ⟨wr.heap.size, 0, none⟩ = some (.int .u64 (s : Int)) := by rw [cell_of_heap alC]; rfl
          have fC0 := frozen_of_heap alC 0
          have cC1 : (wr.alloc (.cells #[.int .u64 (s : Int), .bool true, .int .i64 (ow : Int)] 211)).cell? ⟨wr.heap.size, 1, none⟩ = some (.bool true) := by rw [cell_of_heap alC]; rfl
          have fC1 := frozen_of_heap alC 1
          have cC2 : (wr.alloc (.cells #[.int .u64 (s : Int), .bool true, .int .i64 (ow : Int)] 211)).cell? ⟨wr.heap.size, 2, none⟩ = some (.int .i64 (ow : Int)) := by rw [cell_of_heap alC]; rfl
          have fC2 := frozen_of_heap alC 2
          have grC : Grow wr (wr.alloc (.cells #[.int .u64 (s : Int), .bool true, .int .i64 (ow : Int)] 211)) := (Below.refl _ _).alloc (Nat.le_refl _) _
          obtain ⟨yC0, yC1, yC2⟩ := y1 (hGwr.trans grC)
          have bC0 : (wr.alloc (.cells #[.int .u64 (s : Int), .bool true, .int .i64 (ow : Int)] 211)).cell? ⟨w.heap.size, 0, none⟩ = some (.slice A n c) := by rw [cell_of_heap (grC.heap hBwr)]; rfl
          have bC1 : (wr.alloc (.cells #[.int .u64 (s : Int), .bool true, .int .i64 (ow : Int)] 211)).cell? ⟨w.heap.size, 1, none⟩ = some (.slice B m d) := by rw [cell_of_heap (grC.heap hBwr)]; rfl
          go_wp2_with fail
          have hBw5 := grC.heap hBwr
          have hTw5 := grC.heap hTwr
          have hRw5 := hRwr.grow grC
          have hGw5 := hGwr.trans grC
          have hzw5 := Nat.le_trans hzwr grC.size
          clear alA cA0 fA0 yA0 cA1 fA1 yA1 cA2 fA2 yA2 bA0 bA1 grA
          clear alB cB0 fB0 yB0 cB1 fB1 yB1 cB2 fB2 yB2 bB0 bB1 grB
          clear alC cC0 fC0 yC0 cC1 fC1 yC1 cC2 fC2 yC2 bC0 bC1 grC
          clear m1 m2 m3 m4 m5 m6 m7 n1' n2' n3' n4' n5' p1 p2 p3 p4 p5 p6 p7 p8 p9 p10 p11 q1 y1
          have hlb := lay_last h16 h3776 h48
          obtain ⟨we, wz⟩ := write_ok (σ := σ) hlb
          have hwr := rwriteS hRw5 (fun b hb => Nat.lt_of_lt_of_le (hX1 b hb) hzw5) HH.out.1 off (4800 - off) 0 4800 false HH.out.2.1 (by omega) (by omega) (by omega) (by omega)
          rw [we, wz] at hwr
          have hres := HH.out.2.2.2.2.2.trans (KK.out.2.2.1 hbr)
          rw [← hres] at hwr
          have HW := Lib.hid hwr
          clear hres hwr we wz hlb
          refine Calls.mono (show Calls _ _ #[_, _, .agg #[_, _, .int .i64 0]] _ _ from HW.out) ?_
          rintro e wf ⟨rvf, rfl, hRf, hgf⟩
          obtain ⟨Af, nf, cf, Bf, mf, df, rfl⟩ := hRf.agg
          clear HW
          have gf := World.alloc_heap_new wf (.cells #[.slice Af nf cf, .slice Bf mf df] 67)
          have ggf : Grow wf (wf.alloc (.cells #[.slice Af nf cf, .slice Bf mf df] 67)) := (Below.refl _ _).alloc (Nat.le_refl _) _
          have hTf := (hgf.trans ggf).heap hTw5
          have hRg := hRf.grow ggf
          have hGf := hGw5.trans (hgf.trans ggf)
          have k0 : (wf.alloc (.cells #[.slice Af nf cf, .slice Bf mf df] 67)).cell? ⟨wf.heap.size, 0, none⟩ = some (.slice Af nf cf) := by rw [cell_of_heap gf]; rfl
          have k1 : (wf.alloc (.cells #[.slice Af nf cf, .slice Bf mf df] 67)).cell? ⟨wf.heap.size, 1, none⟩ = some (.slice Bf mf df) := by rw [cell_of_heap gf]; rfl
          have k2 : (wf.alloc (.cells #[.slice Af nf cf, .slice Bf mf df] 67)).cell? ⟨w.heap.size + 1, 0, none⟩ = some (.slice none 0 0) := by rw [cell_of_heap hTf]; rfl
          have k3 : (wf.alloc (.cells #[.slice Af nf cf, .slice Bf mf df] 67)).cell? ⟨w.heap.size + 1, 1, none⟩ = some (.slice none 0 0) := by rw [cell_of_heap hTf]; rfl
          have k4 := frozen_of_heap hTf 0
          have k5 := frozen_of_heap hTf 1
          have r1 := heap_same2 (a := .slice Af nf cf) (b := .slice Bf mf df) hTf
          have r2 := refS_less (refS_set (q := w.heap.size + 1) (a := .slice Af nf cf) (b := .slice Bf mf df) hRg (.inr (.inr rfl)))
          have r3 := grow_set2 (q := w.heap.size + 1) (a := .slice Af nf cf) (b := .slice Bf mf df) hGf (by omega)
          have R1 := Lib.hid r1
          have R2 := Lib.hid r2
          have R3 := Lib.hid r3
          clear r1 r2 r3 gf ggf hTf hRg hGf hRf hgf
          go_wp2
          exact bodyPost_ret (results_c67 (g := w.heap.size + 1) (fr := (0, 0)) rfl rfl R1.out) rfl ⟨_, rfl, R2.out, R3.out⟩
      · have tE : decide ((4800 : Int) < ((off + s + 48 : Nat) : Int)) = false := decide_eq_false (by omega)
        have hs1 := (lay_more (q := (x, y, z)) h16 h3776 (by rw [hsG]; omega))
        rw [hsG, huG, hoG] at hs1
        cases u
        · have hr0 : r10 = 0 := by have := of_decide_eq_false tU; omega
          subst hr0
          simp only [Int.ofNat_zero] at n1' n2' n3' n4' n5'
          clear tU
          have alA := World.alloc_heap_new wr (.cells #[.int .u64 (s : Int), .bool false, .int .i64 0] 211)
          have cA0 : (wr.alloc (.cells #[.int .u64 (s : Int), .bool false, .int .i64 0] 211)).cell? ⟨wr.heap.size, 0, none⟩ = some (.int .u64 (s : Int)) := by rw [cell_of_heap alA]; rfl
          have fA0 := frozen_of_heap alA 0
          have cA1 : (wr.alloc (.cells #[.int .u64 (s : Int), .bool false, .int .i64 0] 211)).cell? ⟨wr.heap.size, 1, none⟩ = some (.bool false) := by rw [cell_of_heap alA]; rfl
          have fA1 := frozen_of_heap alA 1
          have cA2 : (wr.alloc (.cells #[.int .u64 (s : Int), .bool false, .int .i64 0] 211)).cell? ⟨wr.heap.size, 2, none⟩ = some (.int .i64 0) := by rw [cell_of_heap alA]; rfl
          have fA2 := frozen_of_heap alA 2
          have grA : Grow wr (wr.alloc (.cells #[.int .u64 (s : Int), .bool false, .int .i64 0] 211)) := (Below.refl _ _).alloc (Nat.le_refl _) _
          obtain ⟨yA0, yA1, yA2⟩ := y1 (hGwr.trans grA)
          have bA0 : (wr.alloc (.cells #[.int .u64 (s : Int), .bool false, .int .i64 0] 211)).cell? ⟨w.heap.size, 0, none⟩ = some (.slice A n c) := by rw [cell_of_heap (grA.heap hBwr)]; rfl
          have bA1 : (wr.alloc (.cells #[.int .u64 (s : Int), .bool false, .int .i64 0] 211)).cell? ⟨w.heap.size, 1, none⟩ = some (.slice B m d) := by rw [cell_of_heap (grA.heap hBwr)]; rfl
          go_wp2_with fail
          have hBw5 := grA.heap hBwr
          have hTw5 := grA.heap hTwr
          have hRw5 := hRwr.grow grA
          have hGw5 := hGwr.trans grA
          have hzw5 := Nat.le_trans hzwr grA.size
          have hW2 := KK.out.2.1 (by omega)
          have hon := KK.out.2.2.2.2.1
          have hof := KK.out.2.2.2.2.2 (by omega)
          have hgo := HH.out.2.2.2.2.2.trans (KK.out.2.2.2.1 hbr)
          have hwr := rwriteS hRw5 (fun b hb => Nat.lt_of_lt_of_le (hX1 b hb) hzw5) HH.out.1 off s ow 4800 false HH.out.2.1 (by omega) (by omega) (by omega) (by omega)
          rw [hW2.1, hW2.2] at hwr
          rw [if_neg (by simp)] at hon
          have hfin := ((HH.out.1.store off (packG s false ow)).store (off + s - 8) (packG s false ow))
          have HM := Lib.hid (⟨hon, hof, hgo, hfin⟩ : _ ∧ _ ∧ _ ∧ _)
          clear hon hof hgo hW2
          obtain rfl : ow = 0 := by have := hpo.2; simp at this; exact this
          refine Calls.mono (show Calls _ _ #[_, _, .agg #[_, _, .int .i64 0]] _ _ from hwr) ?_
          rintro e w6 ⟨rv6, rfl, hR6, hg6⟩
          obtain ⟨A6, n6, c6, B6, m6', d6, rfl⟩ := hR6.agg
          clear hwr
          have hq7 : w.heap.size + 1 < wr.heap.size := lt_of_heap hTwr
          have ne1 : ¬ wr.heap.size = w.heap.size := by omega
          have ne2 : ¬ w.heap.size = wr.heap.size := by omega
          have g7 := World.alloc_heap_new w6 (.cells #[.slice A6 n6 c6, .slice B6 m6' d6] 67)
          have gg7 : Grow w6 (w6.alloc (.cells #[.slice A6 n6 c6, .slice B6 m6' d6] 67)) := (Below.refl _ _).alloc (Nat.le_refl _) _
          have hB7 := (hg6.trans gg7).heap hBw5
          have hT7 := (hg6.trans gg7).heap hTw5
          have hR7 := hR6.grow gg7
          have hG7 := hGw5.trans (hg6.trans gg7)
          have hz7 := Nat.le_trans hzw5 (hg6.trans gg7).size
          have al7 := (hg6.trans gg7).heap alA
          have hq9 : w.heap.size + 1 < w6.heap.size := lt_of_heap (hg6.heap hTw5)
          have hq8 : wr.heap.size < w6.heap.size := lt_of_heap (hg6.heap alA)
          clear alA cA0 fA0 yA0 cA1 fA1 yA1 cA2 fA2 yA2 bA0 bA1 grA
          clear hBw5 hTw5 hRw5 hGw5 hzw5 hR6 hg6 gg7
          have t0 : (w6.alloc (.cells #[.slice A6 n6 c6, .slice B6 m6' d6] 67)).cell? ⟨wr.heap.size, 0, none⟩ = some (.int .u64 (s : Int)) := by rw [cell_of_heap al7]; rfl
          have t1 : (w6.alloc (.cells #[.slice A6 n6 c6, .slice B6 m6' d6] 67)).cell? ⟨wr.heap.size, 1, none⟩ = some (.bool false) := by rw [cell_of_heap al7]; rfl
          have z0 : (w6.alloc (.cells #[.slice A6 n6 c6, .slice B6 m6' d6] 67)).cell? ⟨w6.heap.size, 0, none⟩ = some (.slice A6 n6 c6) := by rw [cell_of_heap g7]; rfl
          have z1 : (w6.alloc (.cells #[.slice A6 n6 c6, .slice B6 m6' d6] 67)).cell? ⟨w6.heap.size, 1, none⟩ = some (.slice B6 m6' d6) := by rw [cell_of_heap g7]; rfl
          have v0 := frozen_of_heap hB7 0
          have v1 := frozen_of_heap hB7 1
          have v2 : (w6.alloc (.cells #[.slice A6 n6 c6, .slice B6 m6' d6] 67)).cell? ⟨w.heap.size, 0, none⟩ = some (.slice A n c) := by rw [cell_of_heap hB7]; rfl
          have v3 : (w6.alloc (.cells #[.slice A6 n6 c6, .slice B6 m6' d6] 67)).cell? ⟨w.heap.size, 1, none⟩ = some (.slice B m d) := by rw [cell_of_heap hB7]; rfl
          have HF : Hid (FineS (layOne σ off (x, y, z)) ∧ (layOne σ off (x, y, z)).load 16 = 4800 ∧ (off + s) % 16 = 0 ∧ 3776 ≤ off + s ∧ off + s + 48 ≤ 4800 ∧ layS 4800 σ0 3776 l = layS 4800 (layOne σ off (x, y, z)) (off + s) (l.drop (k + 1))) :=
            Lib.hid ⟨by rw [HM.out.1]; exact HM.out.2.2.2, by rw [HM.out.2.1]; exact HH.out.2.1, by omega, by omega, by omega, HM.out.2.2.1⟩
          rw [← HM.out.1] at hR7
          have hB9 := heap_same2 (a := .slice A6 n6 c6) (b := .slice B6 m6' d6) hB7
          have hT9 := heap_set2 (a := .slice A6 n6 c6) (b := .slice B6 m6' d6) hT7 (show w.heap.size + 1 ≠ w.heap.size by omega)
          have hR9 := refS_set (q := w.heap.size) (a := .slice A6 n6 c6) (b := .slice B6 m6' d6) hR7 (.inr (.inl rfl))
          have hG9 := grow_set2 (q := w.heap.size) (a := .slice A6 n6 c6) (b := .slice B6 m6' d6) hG7 (Nat.le_refl _)
          have hz9 : wa.heap.size ≤ (((w6.alloc (.cells #[.slice A6 n6 c6, .slice B6 m6' d6] 67)).setCell ⟨w.heap.size, 0, none⟩ (.slice A6 n6 c6)).setCell ⟨w.heap.size, 1, none⟩ (.slice B6 m6' d6)).heap.size := by simpa [World.setCell] using hz7
          clear HM HH KK HL hfin hOd hs1 m1 m2 m3 m4 m5 m6 m7 n1' n2' n3' n4' n5' p2 p3 p4 p5 p6 p7 p8 p9 p10 p11 q1 hsG huG hoG hlG tE hr8 hr10 hpo hsp s1 y1 rows x0 x1 x2 hX1 hzwr hRwr hGwr hTwr hBwr
          go_wp2
          generalize hq9e : w6.heap.size = q9 at *
          generalize (w6.alloc (.cells #[.slice A6 n6 c6, .slice B6 m6' d6] 67)) = w7 at *
          generalize (w7.setCell ⟨w.heap.size, 0, none⟩ (.slice A6 n6 c6)).setCell ⟨w.heap.size, 1, none⟩ (.slice B6 m6' d6) = w9 at *
          clear t0 t1 z0 z1 v0 v1 v2 v3 g7 al7
          clear hB7 hT7 hR7 hG7 hz7
          go_roundw
          case rel => exact ⟨k + 1, off + s, layOne σ off (x, y, z), A6, n6, c6, B6, m6', d6, by omega, by go_num, by go_num, hB9, hT9, hR9, hG9, hz9, HF⟩
          case measure => simp [intOf]; omega
        · have ho1 : (r10 : Int) - 1 = (ow : Int) := by have := of_decide_eq_true tU; omega
          have hpos : 0 < r10 := by have := of_decide_eq_true tU; omega
          rw [ho1] at q1
          clear hOd
          have alA := World.alloc_heap_new wr (.cells #[.int .u64 (s : Int), .bool false, .int .i64 0] 211)
          have cA0 : (wr.alloc (.cells #[.int .u64 (s : Int), .bool false, .int .i64 0] 211)).cell? ⟨wr.heap.size, 0, none⟩ = some (.int .u64 (s : Int)) := by rw [cell_of_heap alA]; rfl
          have fA0 := frozen_of_heap alA 0
          have cA1 : (wr.alloc (.cells #[.int .u64 (s : Int), .bool false, .int .i64 0] 211)).cell? ⟨wr.heap.size, 1, none⟩ = some (.bool false) := by rw [cell_of_heap alA]; rfl
          have fA1 := frozen_of_heap alA 1
          have cA2 : (wr.alloc (.cells #[.int .u64 (s : Int), .bool false, .int .i64 0] 211)).cell? ⟨wr.heap.size, 2, none⟩ = some (.int .i64 0) := by rw [cell_of_heap alA]; rfl
          have fA2 := frozen_of_heap alA 2
          have grA : Grow wr (wr.alloc (.cells #[.int .u64 (s : Int), .bool false, .int .i64 0] 211)) := (Below.refl _ _).alloc (Nat.le_refl _) _
          obtain ⟨yA0, yA1, yA2⟩ := y1 (hGwr.trans grA)
          have bA0 : (wr.alloc (.cells #[.int .u64 (s : Int), .bool false, .int .i64 0] 211)).cell? ⟨w.heap.size, 0, none⟩ = some (.slice A n c) := by rw [cell_of_heap (grA.heap hBwr)]; rfl
          have bA1 : (wr.alloc (.cells #[.int .u64 (s : Int), .bool false, .int .i64 0] 211)).cell? ⟨w.heap.size, 1, none⟩ = some (.slice B m d) := by rw [cell_of_heap (grA.heap hBwr)]; rfl
          have alB := World.alloc_heap_new wr (.cells #[.int .u64 (s : Int), .bool true, .int .i64 0] 211)
          have cB0 : (wr.alloc (.cells #[.int .u64 (s : Int), .bool true, .int .i64 0] 211)).cell? ⟨wr.heap.size, 0, none⟩ = some (.int .u64 (s : Int)) := by rw [cell_of_heap alB]; rfl
          have fB0 := frozen_of_heap alB 0
          have cB1 : (wr.alloc (.cells #[.int .u64 (s : Int), .bool true, .int .i64 0] 211)).cell? ⟨wr.heap.size, 1, none⟩ = some (.bool true) := by rw [cell_of_heap alB]; rfl
          have fB1 := frozen_of_heap alB 1
          have cB2 : (wr.alloc (.cells #[.int .u64 (s : Int), .bool true, .int .i64 0] 211)).cell? ⟨wr.heap.size, 2, none⟩ = some (.int .i64 0) := by rw [cell_of_heap alB]; rfl
          have fB2 := frozen_of_heap alB 2
          have grB : Grow wr (wr.alloc (.cells #[.int .u64 (s : Int), .bool true, .int .i64 0] 211)) := (Below.refl _ _).alloc (Nat.le_refl _) _
          obtain ⟨yB0, yB1, yB2⟩ := y1 (hGwr.trans grB)
          have bB0 : (wr.alloc (.cells #[.int .u64 (s : Int), .bool true, .int .i64 0] 211)).cell? ⟨w.heap.size, 0, none⟩ = some (.slice A n c) := by rw [cell_of_heap (grB.heap hBwr)]; rfl
          have bB1 : (wr.alloc (.cells #[.int .u64 (s : Int), .bool true, .int .i64 0] 211)).cell? ⟨w.heap.size, 1, none⟩ = some (.slice B m d) := by rw [cell_of_heap (grB.heap hBwr)]; rfl
          have alC := World.alloc_heap_new wr (.cells #[.int .u64 (s : Int), .bool true, .int .i64 (ow : Int)] 211)
          have cC0 : (wr.alloc (.cells #[.int .u64 (s : Int), .bool true, .int .i64 (ow : Int)] 211)).cell? ⟨wr.heap.size, 0, none⟩ = some (.int .u64 (s : Int)) := by rw [cell_of_heap alC]; rfl
          have fC0 := frozen_of_heap alC 0
          have cC1 : (wr.alloc (.cells #[.int .u64 (s : Int), .bool true, .int .i64 (ow : Int)] 211)).cell? ⟨wr.heap.size, 1, none⟩ = some (.bool true) := by rw [cell_of_heap alC]; rfl
          have fC1 := frozen_of_heap alC 1
          have cC2 : (wr.alloc (.cells #[.int .u64 (s : Int), .bool true, .int .i64 (ow : Int)] 211)).cell? ⟨wr.heap.size, 2, none⟩ = some (.int .i64 (ow : Int)) := by rw [cell_of_heap alC]; rfl
          have fC2 := frozen_of_heap alC 2
          have grC : Grow wr (wr.alloc (.cells #[.int .u64 (s : Int), .bool true, .int .i64 (ow : Int)] 211)) := (Below.refl _ _).alloc (Nat.le_refl _) _
          obtain ⟨yC0, yC1, yC2⟩ := y1 (hGwr.trans grC)
          have bC0 : (wr.alloc (.cells #[.int .u64 (s : Int), .bool true, .int .i64 (ow : Int)] 211)).cell? ⟨w.heap.size, 0, none⟩ = some (.slice A n c) := by rw [cell_of_heap (grC.heap hBwr)]; rfl
          have bC1 : (wr.alloc (.cells #[.int .u64 (s : Int), .bool true, .int .i64 (ow : Int)] 211)).cell? ⟨w.heap.size, 1, none⟩ = some (.slice B m d) := by rw [cell_of_heap (grC.heap hBwr)]; rfl
          go_wp2_with fail
          have hBw5 := grC.heap hBwr
          have hTw5 := grC.heap hTwr
          have hRw5 := hRwr.grow grC
          have hGw5 := hGwr.trans grC
          have hzw5 := Nat.le_trans hzwr grC.size
          clear alA cA0 fA0 yA0 cA1 fA1 yA1 cA2 fA2 yA2 bA0 bA1 grA
          clear alB cB0 fB0 yB0 cB1 fB1 yB1 cB2 fB2 yB2 bB0 bB1 grB
          have hW2 := KK.out.2.1 (by omega)
          have hon := KK.out.2.2.2.2.1
          have hof := KK.out.2.2.2.2.2 (by omega)
          have hgo := HH.out.2.2.2.2.2.trans (KK.out.2.2.2.1 hbr)
          have hwr := rwriteS hRw5 (fun b hb => Nat.lt_of_lt_of_le (hX1 b hb) hzw5) HH.out.1 off s ow 4800 true HH.out.2.1 (by omega) (by omega) (by omega) (by omega)
          rw [hW2.1, hW2.2] at hwr
          rw [if_pos trivial] at hon
          have hfin := ((HH.out.1.store off (packG s true ow)).store (off + s - 8) (packG s true ow))
          have HM := Lib.hid (⟨hon, hof, hgo, hfin⟩ : _ ∧ _ ∧ _ ∧ _)
          clear hon hof hgo hW2
          refine Calls.mono (show Calls _ _ #[_, _, .agg #[_, _, .int .i64 (ow : Int)]] _ _ from hwr) ?_
          rintro e w6 ⟨rv6, rfl, hR6, hg6⟩
          obtain ⟨A6, n6, c6, B6, m6', d6, rfl⟩ := hR6.agg
          clear hwr
          have hq7 : w.heap.size + 1 < wr.heap.size := lt_of_heap hTwr
          have ne1 : ¬ wr.heap.size = w.heap.size := by omega
          have ne2 : ¬ w.heap.size = wr.heap.size := by omega
          have g7 := World.alloc_heap_new w6 (.cells #[.slice A6 n6 c6, .slice B6 m6' d6] 67)
          have gg7 : Grow w6 (w6.alloc (.cells #[.slice A6 n6 c6, .slice B6 m6' d6] 67)) := (Below.refl _ _).alloc (Nat.le_refl _) _
          have hB7 := (hg6.trans gg7).heap hBw5
          have hT7 := (hg6.trans gg7).heap hTw5
          have hR7 := hR6.grow gg7
          have hG7 := hGw5.trans (hg6.trans gg7)
          have hz7 := Nat.le_trans hzw5 (hg6.trans gg7).size
          have al7 := (hg6.trans gg7).heap alC
          have hq9 : w.heap.size + 1 < w6.heap.size := lt_of_heap (hg6.heap hTw5)
          have hq8 : wr.heap.size < w6.heap.size := lt_of_heap (hg6.heap alC)
          clear alC cC0 fC0 yC0 cC1 fC1 yC1 cC2 fC2 yC2 bC0 bC1 grC
          clear hBw5 hTw5 hRw5 hGw5 hzw5 hR6 hg6 gg7
          have t0 : (w6.alloc (.cells #[.slice A6 n6 c6, .slice B6 m6' d6] 67)).cell? ⟨wr.heap.size, 0, none⟩ = some (.int .u64 (s : Int)) := by rw [cell_of_heap al7]; rfl
          have t1 : (w6.alloc (.cells #[.slice A6 n6 c6, .slice B6 m6' d6] 67)).cell? ⟨wr.heap.size, 1, none⟩ = some (.bool true) := by rw [cell_of_heap al7]; rfl
          have z0 : (w6.alloc (.cells #[.slice A6 n6 c6, .slice B6 m6' d6] 67)).cell? ⟨w6.heap.size, 0, none⟩ = some (.slice A6 n6 c6) := by rw [cell_of_heap g7]; rfl
          have z1 : (w6.alloc (.cells #[.slice A6 n6 c6, .slice B6 m6' d6] 67)).cell? ⟨w6.heap.size, 1, none⟩ = some (.slice B6 m6' d6) := by rw [cell_of_heap g7]; rfl
          have v0 := frozen_of_heap hB7 0
          have v1 := frozen_of_heap hB7 1
          have v2 : (w6.alloc (.cells #[.slice A6 n6 c6, .slice B6 m6' d6] 67)).cell? ⟨w.heap.size, 0, none⟩ = some (.slice A n c) := by rw [cell_of_heap hB7]; rfl
          have v3 : (w6.alloc (.cells #[.slice A6 n6 c6, .slice B6 m6' d6] 67)).cell? ⟨w.heap.size, 1, none⟩ = some (.slice B m d) := by rw [cell_of_heap hB7]; rfl
          clear hs1 m1 m2 m3 m4 m5 m6 n1' n2' n3' n4' n5' p2 hsG huG hoG hlG tE hr8 hr10 q1 s1 rows x0 x1 x2
          go_wp2
          generalize hq9e : w6.heap.size = q9 at *
          generalize (w6.alloc (.cells #[.slice A6 n6 c6, .slice B6 m6' d6] 67)) = w7 at *
          have hsz8 : (w7.drew).heap.size = w7.heap.size := rfl
          have yd : w7.drew.cell? ⟨b, o + k * 3 + 2, none⟩ = some (.int .u16 (z : Int)) := (y1 hG7).2.2
          have td : w7.drew.cell? ⟨wr.heap.size, 0, none⟩ = some (.int .u64 (s : Int)) := t0
          have zd0 : w7.drew.cell? ⟨q9, 0, none⟩ = some (.slice A6 n6 c6) := z0
          have zd1 : w7.drew.cell? ⟨q9, 1, none⟩ = some (.slice B6 m6' d6) := z1
          refine region_plain (fun w' => w'.cell? ⟨b, o + k * 3 + 2, none⟩ = some (.int .u16 (z : Int)) ∧ w'.cell? ⟨wr.heap.size, 0, none⟩ = some (.int .u64 (s : Int))) (by kernel_rfl) ⟨yd, td⟩ (fun hHeld => ?_)
          refine wpAnyH_take (i := 1) (v := ?_) rfl (by kernel_rfl) (by kernel_rfl) (by kernel_rfl) (fun _ _ _ h => h) (Or.inl ⟨by first | kernel_rfl | rfl, ?_⟩) (by assumption) ?_
          rotate_left
          · intro w hSw; (try dsimp only at hSw); (try go_split_ands); go_simp; first | done | with_reducible rfl
          try simp only [Act.put, List.getElem_toArray, List.getElem_cons_succ, List.getElem_cons_zero, List.setIfInBounds_toArray, List.set_cons_zero, List.set_cons_succ]
          refine wpAnyH_take (i := 2) (v := ?_) rfl (by kernel_rfl) (by kernel_rfl) (by kernel_rfl) (fun _ _ _ h => h) (Or.inl ⟨by first | kernel_rfl | rfl, ?_⟩) (by assumption) ?_
          rotate_left
          · intro w hSw; (try dsimp only at hSw); (try go_split_ands); go_simp; first | done | with_reducible rfl
          try simp only [Act.put, List.getElem_toArray, List.getElem_cons_succ, List.getElem_cons_zero, List.setIfInBounds_toArray, List.set_cons_zero, List.set_cons_succ]
          refine wpAnyH_take (i := 3) (v := ?_) rfl (by kernel_rfl) (by kernel_rfl) (by kernel_rfl) (fun _ _ _ h => h) (Or.inl ⟨by first | kernel_rfl | rfl, ?_⟩) (by assumption) ?_
          rotate_left
          · intro w hSw; (try dsimp only at hSw); (try go_split_ands); go_simp; first | done | with_reducible rfl
          try simp only [Act.put, List.getElem_toArray, List.getElem_cons_succ, List.getElem_cons_zero, List.setIfInBounds_toArray, List.set_cons_zero, List.set_cons_succ]
          refine wpAnyH_take (i := 4) (v := ?_) rfl (by kernel_rfl) (by kernel_rfl) (by kernel_rfl) (fun _ _ _ h => h) (Or.inl ⟨by first | kernel_rfl | rfl, ?_⟩) (by assumption) ?_
          rotate_left
          · intro w hSw; (try dsimp only at hSw); (try go_split_ands); go_simp; first | done | with_reducible rfl
          try simp only [Act.put, List.getElem_toArray, List.getElem_cons_succ, List.getElem_cons_zero, List.setIfInBounds_toArray, List.set_cons_zero, List.set_cons_succ]
          refine wpAnyH_take (i := 5) (v := ?_) rfl (by kernel_rfl) (by kernel_rfl) (by kernel_rfl) (fun _ _ _ h => h) (Or.inl ⟨by first | kernel_rfl | rfl, ?_⟩) (by assumption) ?_
          rotate_left
          · intro w hSw; (try dsimp only at hSw); (try go_split_ands); go_simp; first | done | with_reducible rfl
          try simp only [Act.put, List.getElem_toArray, List.getElem_cons_succ, List.getElem_cons_zero, List.setIfInBounds_toArray, List.set_cons_zero, List.set_cons_succ]
          refine wpAnyH_take (i := 6) (v := ?_) rfl (by kernel_rfl) (by kernel_rfl) (by kernel_rfl) (fun _ _ _ h => h) (Or.inl ⟨by first | kernel_rfl | rfl, ?_⟩) (by assumption) ?_
          rotate_left
          · intro w hSw; (try dsimp only at hSw); (try go_split_ands); go_simp; first | done | with_reducible rfl
          try simp only [Act.put, List.getElem_toArray, List.getElem_cons_succ, List.getElem_cons_zero, List.setIfInBounds_toArray, List.set_cons_zero, List.set_cons_succ]
          refine wpAnyH_take (i := 7) (v := ?_) rfl (by kernel_rfl) (by kernel_rfl) (by kernel_rfl) (fun _ _ _ h => h) (Or.inl ⟨by first | kernel_rfl | rfl, ?_⟩) (by assumption) ?_
          rotate_left
          · intro w hSw; (try dsimp only at hSw); (try go_split_ands); go_simp; first | done | with_reducible rfl
          try simp only [Act.put, List.getElem_toArray, List.getElem_cons_succ, List.getElem_cons_zero, List.setIfInBounds_toArray, List.set_cons_zero, List.set_cons_succ]
          refine wpAnyH_take (i := 8) (v := ?_) rfl (by kernel_rfl) (by kernel_rfl) (by kernel_rfl) (fun _ _ _ h => h) (Or.inl ⟨by first | kernel_rfl | rfl, ?_⟩) (by assumption) ?_
          rotate_left
          · intro w hSw; (try dsimp only at hSw); (try go_split_ands); go_simp; first | done | with_reducible rfl
          try simp only [Act.put, List.getElem_toArray, List.getElem_cons_succ, List.getElem_cons_zero, List.setIfInBounds_toArray, List.set_cons_zero, List.set_cons_succ]
          refine wpAnyH_take (i := 9) (v := ?_) rfl (by kernel_rfl) (by kernel_rfl) (by kernel_rfl) (fun _ _ _ h => h) (Or.inl ⟨by first | kernel_rfl | rfl, ?_⟩) (by assumption) ?_
          rotate_left
          · intro w hSw; (try dsimp only at hSw); (try go_split_ands); go_simp; first | done | with_reducible rfl
          try simp only [Act.put, List.getElem_toArray, List.getElem_cons_succ, List.getElem_cons_zero, List.setIfInBounds_toArray, List.set_cons_zero, List.set_cons_succ]
          refine wpAnyH_take (i := 10) (v := ?_) rfl (by kernel_rfl) (by kernel_rfl) (by kernel_rfl) (fun _ _ _ h => h) (Or.inl ⟨by first | kernel_rfl | rfl, ?_⟩) (by assumption) ?_
          rotate_left
          · intro w hSw; (try dsimp only at hSw); (try go_split_ands); go_simp; first | done | with_reducible rfl
          try simp only [Act.put, List.getElem_toArray, List.getElem_cons_succ, List.getElem_cons_zero, List.setIfInBounds_toArray, List.set_cons_zero, List.set_cons_succ]
          refine wpAnyH_take (i := 11) (v := ?_) rfl (by kernel_rfl) (by kernel_rfl) (by kernel_rfl) (fun _ _ _ h => h) (Or.inl ⟨by first | kernel_rfl | rfl, ?_⟩) (by assumption) ?_
          rotate_left
          · intro w hSw; (try dsimp only at hSw); (try go_split_ands); go_simp; first | done | with_reducible rfl
          try simp only [Act.put, List.getElem_toArray, List.getElem_cons_succ, List.getElem_cons_zero, List.setIfInBounds_toArray, List.set_cons_zero, List.set_cons_succ]
          refine wpAnyH_take (i := 12) (v := ?_) rfl (by kernel_rfl) (by kernel_rfl) (by kernel_rfl) (fun _ _ _ h => h) (Or.inl ⟨by first | kernel_rfl | rfl, ?_⟩) (by assumption) ?_
          rotate_left
          · intro w hSw; (try dsimp only at hSw); (try go_split_ands); go_simp; first | done | with_reducible rfl
          try simp only [Act.put, List.getElem_toArray, List.getElem_cons_succ, List.getElem_cons_zero, List.setIfInBounds_toArray, List.set_cons_zero, List.set_cons_succ]
          refine wpAnyH_ready (rs := [0]) (by kernel_rfl) (by simp) ?_
          refine AllReadyH.cons rfl (fun K hK => ?_) AllReadyH.nil
          go_simp
          refine hK.out _ _ ?_ (fun hHeld => ?_)
          · exact ⟨yd, td⟩
          clear hK K
          try simp only [Act.put, List.getElem_toArray, List.getElem_cons_succ, List.getElem_cons_zero, List.setIfInBounds_toArray, List.set_cons_zero, List.set_cons_succ]
          refine wpAnyH_ready (rs := [13]) (by kernel_rfl) (by simp) ?_
          refine AllReadyH.cons rfl (fun K hK => ?_) AllReadyH.nil
          go_simp
          have hst := rstoreS (hR7.grow (grow_drew _)) (fun b hb => Nat.lt_of_lt_of_le (hX1 b hb) hz7) HM.out.2.2.2.fine (off + 8) ln (by omega)
          rw [show ((off + 8 : Nat) : Int) = (off : Int) + 8 from rfl] at hst
          go_at_call 156
          refine Calls.mono hst ?_
          clear hst
          rintro e w8 ⟨rv8, rfl, hR8, hg8⟩
          obtain ⟨A8, n8, c8, B8, m8, d8, rfl⟩ := hR8.agg
          have hgd : Grow w7 w8 := Grow.trans (grow_drew _) hg8
          have hB8 := hgd.heap hB7
          have hT8 := hgd.heap hT7
          have hG8 := hG7.trans hgd
          have hz8 := Nat.le_trans hz7 hgd.size
          have g8 := hgd.heap g7
          have al8 := hgd.heap al7
          go_wp2_with fail
          refine hK.out _ _ ?_ (fun hHeld => ?_)
          · exact ⟨(y1 hG8).2.2, (cell_of_heap al8 0).trans rfl⟩
          clear hK K
          try simp only [Act.put, List.getElem_toArray, List.getElem_cons_succ, List.getElem_cons_zero, List.setIfInBounds_toArray, List.set_cons_zero, List.set_cons_succ]
          have u0 : w8.cell? ⟨q9, 0, none⟩ = some (.slice A6 n6 c6) := by rw [cell_of_heap g8]; rfl
          have u1 : w8.cell? ⟨q9, 1, none⟩ = some (.slice B6 m6' d6) := by rw [cell_of_heap g8]; rfl
          have fu0 := frozen_of_heap g8 0
          have fu1 := frozen_of_heap g8 1
          have hBe := heap_set2 (a := .slice A8 n8 c8) (b := .slice B8 m8 d8) hB8 (show w.heap.size ≠ q9 by omega)
          have hTe := heap_set2 (a := .slice A8 n8 c8) (b := .slice B8 m8 d8) hT8 (show w.heap.size + 1 ≠ q9 by omega)
          have hRe := refS_less (refS_set (q := q9) (a := .slice A8 n8 c8) (b := .slice B8 m8 d8) (refS_off hR8 g8) (.inr rfl))
          have hGe := grow_set2 (q := q9) (a := .slice A8 n8 c8) (b := .slice B8 m8 d8) hG8 (by omega)
          have hze : wa.heap.size ≤ ((w8.setCell ⟨q9, 0, none⟩ (.slice A8 n8 c8)).setCell ⟨q9, 1, none⟩ (.slice B8 m8 d8)).heap.size := by simpa [World.setCell] using hz8
          have ge := heap_same2 (a := .slice A8 n8 c8) (b := .slice B8 m8 d8) g8
          have ale := heap_set2 (a := .slice A8 n8 c8) (b := .slice B8 m8 d8) al8 (show wr.heap.size ≠ q9 by omega)
          refine wpAnyH_ready (rs := [14]) (by kernel_rfl) (by simp) ?_
          refine AllReadyH.cons rfl (fun K hK => ?_) AllReadyH.nil
          go_simp
          refine hK.out _ _ ?_ (fun hHeld => ?_)
          · exact ⟨(y1 hGe).2.2, (cell_of_heap ale 0).trans rfl⟩
          clear hK K
          try simp only [Act.put, List.getElem_toArray, List.getElem_cons_succ, List.getElem_cons_zero, List.setIfInBounds_toArray, List.set_cons_zero, List.set_cons_succ]
          refine wpAnyH_done (by kernel_rfl) ?_ _
          refine NoPanic.normal ?_
          clear hB7 hT7 hR7 hG7 hz7 g7 al7 t0 t1 z0 z1 v0 v1 v2 v3 yd td zd0 zd1 hsz8 hg8 hgd hB8 hT8 hR8 hG8 hz8 g8 al8 u0 u1 fu0 fu1
          generalize (w8.setCell ⟨q9, 0, none⟩ (.slice A8 n8 c8)).setCell ⟨q9, 1, none⟩ (.slice B8 m8 d8) = we at *
          have t0 : we.cell? ⟨wr.heap.size, 0, none⟩ = some (.int .u64 (s : Int)) := by rw [cell_of_heap ale]; rfl
          have z0 : we.cell? ⟨q9, 0, none⟩ = some (.slice A8 n8 c8) := by rw [cell_of_heap ge]; rfl
          have z1 : we.cell? ⟨q9, 1, none⟩ = some (.slice B8 m8 d8) := by rw [cell_of_heap ge]; rfl
          have v0 := frozen_of_heap hBe 0
          have v1 := frozen_of_heap hBe 1
          have v2 : we.cell? ⟨w.heap.size, 0, none⟩ = some (.slice A n c) := by rw [cell_of_heap hBe]; rfl
          have v3 : we.cell? ⟨w.heap.size, 1, none⟩ = some (.slice B m d) := by rw [cell_of_heap hBe]; rfl
          have HF : Hid (FineS (layOne σ off (x, y, z)) ∧ (layOne σ off (x, y, z)).load 16 = 4800 ∧ (off + s) % 16 = 0 ∧ 3776 ≤ off + s ∧ off + s + 48 ≤ 4800 ∧ layS 4800 σ0 3776 l = layS 4800 (layOne σ off (x, y, z)) (off + s) (l.drop (k + 1))) :=
            Lib.hid ⟨by rw [HM.out.1]; exact HM.out.2.2.2.store _ _, by rw [HM.out.2.1]; exact HH.out.2.1, by omega, by omega, by omega, HM.out.2.2.1⟩
          rw [← HM.out.1] at hRe
          have hB9 := heap_same2 (a := .slice A8 n8 c8) (b := .slice B8 m8 d8) hBe
          have hT9 := heap_set2 (a := .slice A8 n8 c8) (b := .slice B8 m8 d8) hTe (show w.heap.size + 1 ≠ w.heap.size by omega)
          have hR9 := refS_set (q := w.heap.size) (a := .slice A8 n8 c8) (b := .slice B8 m8 d8) hRe (.inr (.inl rfl))
          have hG9 := grow_set2 (q := w.heap.size) (a := .slice A8 n8 c8) (b := .slice B8 m8 d8) hGe (Nat.le_refl _)
          have hz9 : wa.heap.size ≤ ((we.setCell ⟨w.heap.size, 0, none⟩ (.slice A8 n8 c8)).setCell ⟨w.heap.size, 1, none⟩ (.slice B8 m8 d8)).heap.size := by simpa [World.setCell] using hze
          clear HM HH KK HL hfin
          go_wp2
          generalize (we.setCell ⟨w.heap.size, 0, none⟩ (.slice A8 n8 c8)).setCell ⟨w.heap.size, 1, none⟩ (.slice B8 m8 d8) = w9 at *
          clear t0 z0 z1 v0 v1 v2 v3 ge ale
          clear hBe hTe hRe hGe hze
          go_roundw
          case rel => exact ⟨k + 1, off + s, layOne σ off (x, y, z), A8, n8, c8, B8, m8, d8, by omega, by go_num, by go_num, hB9, hT9, hR9, hG9, hz9, HF⟩
          case measure => simp [intOf]; omega
    · have hk2 : k = l.length := by omega
      have g0 : decide ((k : Int) < l.length) = false := decide_eq_false (by omega)
      have hdn : l.drop k = [] := by rw [hk2, List.drop_length]
      rw [hdn] at HH
      clear hdn
      have b0 : wr.cell? ⟨w.heap.size, 0, none⟩ = some (.slice A n c) := by rw [cell_of_heap hBwr]; rfl
      have b1 : wr.cell? ⟨w.heap.size, 1, none⟩ = some (.slice B m d) := by rw [cell_of_heap hBwr]; rfl
      go_wp2_with fail
      clear b0 b1
      have hlb := lay_last h16 h3776 h48
      obtain ⟨we, wz⟩ := write_ok (σ := σ) hlb
      have hwr := rwriteS hRwr (fun b hb => Nat.lt_of_lt_of_le (hX1 b hb) hzwr) HH.out.1 off (4800 - off) 0 4800 false HH.out.2.1 (by omega) (by omega) (by omega) (by omega)
      rw [we, wz] at hwr
      have hres := HH.out.2.2.2.2.2.trans (layS_stop (.inl rfl))
      rw [← hres] at hwr
      have HW := Lib.hid hwr
      clear hres hwr we wz hlb
      refine Calls.mono (show Calls _ _ #[_, _, .agg #[_, _, .int .i64 0]] _ _ from HW.out) ?_
      rintro e wf ⟨rvf, rfl, hRf, hgf⟩
      obtain ⟨Af, nf, cf, Bf, mf, df, rfl⟩ := hRf.agg
      clear HW
      have gf := World.alloc_heap_new wf (.cells #[.slice Af nf cf, .slice Bf mf df] 67)
      have ggf : Grow wf (wf.alloc (.cells #[.slice Af nf cf, .slice Bf mf df] 67)) := (Below.refl _ _).alloc (Nat.le_refl _) _
      have hTf := (hgf.trans ggf).heap hTwr
      have hRg := hRf.grow ggf
      have hGf := hGwr.trans (hgf.trans ggf)
      have k0 : (wf.alloc (.cells #[.slice Af nf cf, .slice Bf mf df] 67)).cell? ⟨wf.heap.size, 0, none⟩ = some (.slice Af nf cf) := by rw [cell_of_heap gf]; rfl
      have k1 : (wf.alloc (.cells #[.slice Af nf cf, .slice Bf mf df] 67)).cell? ⟨wf.heap.size, 1, none⟩ = some (.slice Bf mf df) := by rw [cell_of_heap gf]; rfl
      have k2 : (wf.alloc (.cells #[.slice Af nf cf, .slice Bf mf df] 67)).cell? ⟨w.heap.size + 1, 0, none⟩ = some (.slice none 0 0) := by rw [cell_of_heap hTf]; rfl
      have k3 : (wf.alloc (.cells #[.slice Af nf cf, .slice Bf mf df] 67)).cell? ⟨w.heap.size + 1, 1, none⟩ = some (.slice none 0 0) := by rw [cell_of_heap hTf]; rfl
      have k4 := frozen_of_heap hTf 0
      have k5 := frozen_of_heap hTf 1
      have r1 := heap_same2 (a := .slice Af nf cf) (b := .slice Bf mf df) hTf
      have r2 := refS_less (refS_set (q := w.heap.size + 1) (a := .slice Af nf cf) (b := .slice Bf mf df) hRg (.inr (.inr rfl)))
      have r3 := grow_set2 (q := w.heap.size + 1) (a := .slice Af nf cf) (b := .slice Bf mf df) hGf (by omega)
      have R1 := Lib.hid r1
      have R2 := Lib.hid r2
      have R3 := Lib.hid r3
      clear r1 r2 r3 gf ggf hTf hRg hGf hRf hgf
      go_wp2
      exact bodyPost_ret (results_c67 (g := w.heap.size + 1) (fr := (0, 0)) rfl rfl R1.out) rfl ⟨_, rfl, R2.out, R3.out⟩
end Go.Proofs.Ck
