/- ClientPlays: the walk. -/
import Derived.Test.YtpakfelekphbmaaRefDo
import Derived.Test.YtpakfelekphbmaaRefAll
import Derived.Test.YtpakfelekphbmaaSame
import Derived.Deep.RegionHeld3
namespace Go.Proofs.Ck
open Go Go.RowKit

/-- Deeds, cell by cell. -/
def deeds (l : List (Int × Int × Nat)) : List Value := l.flatMap fun d => [.int .i64 d.1, .int .i64 d.2.1, .int .u64 (d.2.2 : Int)]
theorem deeds_length (l : List (Int × Int × Nat)) : (deeds l).length = l.length * 3 := by
  induction l with
  | nil => rfl
  | cons d l ih =>
    have e : deeds (d :: l) = .int .i64 d.1 :: .int .i64 d.2.1 :: .int .u64 (d.2.2 : Int) :: deeds l := rfl
    rw [e]
    simp only [List.length_cons, ih]
    omega
theorem deeds_get {l : List (Int × Int × Nat)} {i : Nat} {d : Int × Int × Nat} (h : l[i]? = some d) : (deeds l)[i * 3]? = some (.int .i64 d.1) ∧ (deeds l)[i * 3 + 1]? = some (.int .i64 d.2.1) ∧ (deeds l)[i * 3 + 2]? = some (.int .u64 (d.2.2 : Int)) := by
  induction l generalizing i with
  | nil => simp at h
  | cons e l ih =>
    have he : deeds (e :: l) = .int .i64 e.1 :: .int .i64 e.2.1 :: .int .u64 (e.2.2 : Int) :: deeds l := rfl
    cases i with
    | zero =>
      simp only [List.getElem?_cons_zero, Option.some.injEq] at h
      subst h
      exact ⟨rfl, rfl, rfl⟩
    | succ i =>
      rw [he, show (i + 1) * 3 = i * 3 + 1 + 1 + 1 by omega]
      simp only [List.getElem?_cons_succ] at h ⊢
      obtain ⟨h1, h2, h3⟩ := ih h
      exact ⟨h1, h2, h3⟩

theorem same_selfP {S S' : Nat → Prop} {w : World} {A A' : Option Addr} {c c' n : Nat} {l : List (Nat × Nat)} (h0 : Puts S w A l) (h1 : Puts S' w A' l) (e : l.length = n) (hn : n ≤ 17592186044416) :
    Calls Try.prog 91 #[.slice A n c, .slice A' n c'] w fun e w' => e = .returned (.bool true) ∧ Grow w w' := by
  subst e
  have := same_call (c := c) (c' := c') h0 h1 hn
  rwa [decide_eq_true rfl] at this

section
variable {base : Nat} {M0 : Nat → Prop} {w0 w w' : World} {v : Value} {σ : St} {bx : List Bx} {K : World → (Nat → Prop) → Prop}
/-- A call that leaves the words alone, and tells of new memory. -/
theorem Ctx.step {ι : Type} {g : FuncId} {args : Array Value} {R : ι → Ending → Prop} {L : ι → World → (Nat → Prop) → Prop} (h : Ctx base M0 w0 w v σ bx K) (hL : ∀ y, Stable (L y))
    (hc : ∀ X, (∀ b, X b → b < w.heap.size) → K w X → Calls Try.prog g args w fun e w' => ∃ y, R y e ∧ L y w' X ∧ Grow w w') :
    Calls Try.prog g args w fun e w' => ∃ y, R y e ∧ Ctx base M0 w0 w' v σ bx (L y) := by
  obtain ⟨hK, M, h1, h2, h3, h4⟩ := h
  refine (hc _ (fun b hb => ?_) h4).mono ?_
  · rcases hb with hb | hb
    · exact h1.lt b hb
    · obtain ⟨x, hx, rfl⟩ := List.mem_map.1 hb
      exact lt_of_heap (h3.at_ x hx).1
  · rintro e w' ⟨y, h5, h6, hg⟩
    have hn : Next M M w w' := Next.of_grow hg
    exact ⟨y, h5, hL y, M, h1.grow hg, h2.trans hn, h3.next hn, h6⟩
end

section
variable {base : Nat} {M0 : Nat → Prop} {w0 w w' : World} {v rv : Value} {σ τ : St} {bx : List Bx} {K : World → (Nat → Prop) → Prop}
theorem Ctx.rset (h : Ctx base M0 w0 w v σ bx fun w X => RefS rv τ w X ∧ K w X) (hK : Stable K) (hf : Fine τ) (c : Int) (what x : Nat) (h8 : what % 8 = 0) (hw : what < 416) :
    Calls Try.prog 119 #[rv, .int .i64 c, .int .u64 (what : Int), .int .u64 (x : Int)] w fun e w' => ∃ rv', e = .returned rv' ∧ Ctx base M0 w0 w' v σ bx fun w X => RefS rv' (setS τ c what x) w X ∧ K w X :=
  h.step (L := fun rv' w X => RefS rv' (setS τ c what x) w X ∧ K w X) (fun _ => stable_refS.and hK) fun _ hX hk => (rsetS hk.1 hX hf c what x h8 hw).mono fun _ _ ⟨rv', h1, h2, h3⟩ => ⟨rv', h1, ⟨h2, hK _ _ _ _ (Next.of_grow h3) hk.2⟩, h3⟩
theorem Ctx.rdo (h : Ctx base M0 w0 w v σ bx fun w X => RefS rv τ w X ∧ K w X) (hK : Stable K) (hf : Fine τ) (what c : Int) (off : Nat) (hw : 1 ≤ what ∧ what ≤ 4) :
    Calls Try.prog 120 #[rv, .int .i64 what, .int .i64 c] w fun e w' => ∃ rv', e = .returned (.tuple #[rv', .int .i64 ((doE τ.load what c : Nat) : Int)]) ∧ Ctx base M0 w0 w' v σ bx fun w X => RefS rv' (doS τ what c off) w X ∧ K w X :=
  h.step (L := fun rv' w X => RefS rv' (doS τ what c off) w X ∧ K w X) (fun _ => stable_refS.and hK) fun _ hX hk => (rdoS hk.1 hX hf what c off hw).mono fun _ _ ⟨rv', h1, h2, h3⟩ => ⟨rv', h1, ⟨h2, hK _ _ _ _ (Next.of_grow h3) hk.2⟩, h3⟩
theorem Ctx.agg (h : Ctx base M0 w0 w v σ bx fun w X => RefS rv τ w X ∧ K w X) : ∃ A n c B m d, rv = .agg #[.slice A n c, .slice B m d] := by
  obtain ⟨X, hX⟩ := h.know
  exact hX.1.agg
theorem Ctx.rowCell {b o n k j : Nat} {xs : List Value} {u : Value} (h : Ctx base M0 w0 w v σ bx fun w X => K w X ∧ Row (fun b => ¬ X b) w (some ⟨b, o, none⟩) n k xs) (hj : xs[j]? = some u) : w.cell? ⟨b, o + j, none⟩ = some u := by
  obtain ⟨X, hX⟩ := h.know
  obtain ⟨b', o', e, -, hc⟩ := hX.2.at_ (by have := (List.getElem?_eq_some_iff.1 hj).1; omega)
  cases e
  exact hc j u hj
theorem Ctx.stateC (h : Ctx base M0 w0 w v σ bx K) {c : Int} {x : Nat} (hx : Hid (getF σ.load c 0 = x)) : Calls Try.prog 101 #[v, .int .i64 c] w fun e w' => e = .returned (.int .u64 (x : Int)) ∧ Ctx base M0 w0 w' v σ bx K := h.read (stateIs h.any hx.out)
theorem Ctx.headC (h : Ctx base M0 w0 w v σ bx K) {c : Int} {x : Nat} (hx : Hid (getF σ.load c 8 = x)) : Calls Try.prog 102 #[v, .int .i64 c] w fun e w' => e = .returned (.int .u64 (x : Int)) ∧ Ctx base M0 w0 w' v σ bx K := h.read (headIs h.any hx.out)
theorem Ctx.rget0 (h : Ctx base M0 w0 w v σ bx fun w X => RefS rv σ w X ∧ K w X) (hW : Hid (σ.W.length = 600)) {c : Int} {x : Nat} (hx : Hid (getF σ.load c 0 = x)) :
    Calls Try.prog 121 #[rv, .int .i64 c, .int .u64 0] w fun e w' => e = .returned (.int .u64 (x : Int)) ∧ Ctx base M0 w0 w' v σ bx fun w X => RefS rv σ w X ∧ K w X := by
  obtain ⟨X, hX⟩ := h.know
  have := rget_any (hX.1.ref (h.fine hW.out)) c 0 rfl (by omega)
  rw [hx.out] at this
  exact h.read this
theorem Ctx.rget8 (h : Ctx base M0 w0 w v σ bx fun w X => RefS rv σ w X ∧ K w X) (hW : Hid (σ.W.length = 600)) {c : Int} {x : Nat} (hx : Hid (getF σ.load c 8 = x)) :
    Calls Try.prog 121 #[rv, .int .i64 c, .int .u64 8] w fun e w' => e = .returned (.int .u64 (x : Int)) ∧ Ctx base M0 w0 w' v σ bx fun w X => RefS rv σ w X ∧ K w X := by
  obtain ⟨X, hX⟩ := h.know
  have := rget_any (hX.1.ref (h.fine hW.out)) c 8 rfl (by omega)
  rw [hx.out] at this
  exact h.read this
theorem Ctx.rgetZ (h : Ctx base M0 w0 w v σ bx fun w X => RefS rv σ w X ∧ K w X) (hW : Hid (σ.W.length = 600)) {c : Int} {x y : Nat} (hx : Hid (getF σ.load c 0 = x)) (hy : Hid (getF σ.load c 8 = y)) (z : Int) (hz : z = 0 ∨ z = 8) :
    Calls Try.prog 121 #[rv, .int .i64 c, .int .u64 z] w fun e w' => e = .returned (.int .u64 (if z = 0 then (x : Int) else (y : Int))) ∧ Ctx base M0 w0 w' v σ bx fun w X => RefS rv σ w X ∧ K w X := by
  rcases hz with rfl | rfl
  · exact h.rget0 hW hx
  · exact h.rget8 hW hy
end

set_option maxRecDepth 100000 in
set_option maxHeartbeats 16000000 in
theorem clientPlays {w : World} {A D : Option Addr} {n m : Nat} {kk : List (Nat × Nat)} {l : List (Int × Int × Nat)} (s : Nat) (hl : Puts (fun b => b < w.heap.size) w A kk) (hm : kk.length ≤ 9223372036854775807)
    (hx : ∀ p ∈ kk, p.1 < 18446744073709551616 ∧ p.2 < 18446744073709551616) (hD : Row (fun b => b < w.heap.size) w D l.length 3 (deeds l)) (hdl : l.length ≤ 9223372036854775807) (ho : ∀ d ∈ l, d.2.2 < 18446744073709551616) :
    Calls Try.prog 35 #[.slice A kk.length n, .slice D l.length m, .int .u64 (s : Int)] w fun e w' => e = .returned (.bool true) ∧ Grow w w' := by
  by_cases h30 : l.length ≤ 30
  · have t0 : decide ((30 : Int) < l.length) = false := decide_eq_false (by omega)
    go_enter Try.func35, Try.ntmps35
    go_wp2_with fail
    refine (awake8 w).mono ?_
    rintro e w1 ⟨rfl, hg⟩
    go_wp2_with fail
    refine (formed_S hg hl (K0 := fun w X => Row (fun b => ¬ X b) w D l.length 3 (deeds l)) stable_row ((hD.grow hg).mono fun b hb _ => by omega) fun hl1 => formed100 (c := n) 4480 (by unfold fits; omega) hl1 hm hx).mono ?_
    rintro e w2 ⟨base, p, A', n1, c', B', n2, d', rfl, C2⟩
    have hW := fill_W 4480 (kk.take 60)
    generalize fillS ⟨fmtW 600 4480, []⟩ (kk.take 60) = σ at C2 hW
    have C2 := C2.less (stable_refS.and stable_row) (L := fun w X => RefS (.agg #[.slice A' n1 c', .slice B' n2 d']) σ w X ∧ Row (fun b => ¬ X b) w D l.length 3 (deeds l)) (fun w X h => ⟨h.1, h.2.2⟩)
    have HW := Lib.hid hW
    clear hl hx hg hD hW
    rename_i C2old
    clear C2old
    have C3 := C2.alloc #[.slice A' n1 c', .slice B' n2 d'] 67
    clear C2
    go_wp2_with fail
    generalize w2.alloc (Obj.cells #[.slice A' n1 c', .slice B' n2 d'] 67) = w3 at C3 ⊢
    go_loopw [10] (fun i wr => ∃ (k : Nat) (σ : St) (A1 : Option Addr) (n1 c1 : Nat) (B1 : Option Addr) (m1 d1 : Nat), k ≤ l.length ∧ i = .int .i64 (k : Int) ∧ Hid (σ.W.length = 600) ∧
        Ctx base (fun _ => False) w wr (.pointer p) σ [(w2.heap.size, #[.slice A1 n1 c1, .slice B1 m1 d1], 67)] (fun w X => RefS (.agg #[.slice A1 n1 c1, .slice B1 m1 d1]) σ w X ∧ Row (fun b => ¬ X b) w D l.length 3 (deeds l)))
      (fun i _ => l.length - (intOf i).toNat)
    case atStart => exact ⟨0, σ, A', n1, c', B', n2, d', Nat.zero_le _, rfl, HW, C3⟩
    case round =>
      clear C3 HW
      obtain ⟨k, σ, A1, n1, c1, B1, m1, d1, hk, rfl, HW, C3⟩ := hrel
      by_cases hlt : k < l.length
      · have g0 : decide ((k : Int) < l.length) = true := decide_eq_true (by omega)
        obtain ⟨d, hd⟩ : ∃ d, l[k]? = some d := ⟨_, List.getElem?_eq_getElem hlt⟩
        obtain ⟨what, c, off⟩ := d
        have hoff : off < 18446744073709551616 := ho _ (List.mem_of_getElem? hd)
        obtain ⟨e1, e2, e3⟩ := deeds_get hd
        simp only at e1 e2 e3
        have HD := Lib.hid (⟨e1, e2, e3⟩ : (deeds l)[k * 3]? = some (.int .i64 what) ∧ (deeds l)[k * 3 + 1]? = some (.int .i64 c) ∧ (deeds l)[k * 3 + 2]? = some (.int .u64 (off : Int)))
        clear hd ho e1 e2 e3
        obtain ⟨X, hX⟩ := C3.know
        obtain ⟨b, o, hDb, -, hcell⟩ := hX.2.pos (by omega) (by omega)
        subst hDb
        have x0 := hcell _ _ HD.out.1
        have x1 := hcell _ _ HD.out.2.1
        have x2 := hcell _ _ HD.out.2.2
        rw [← Nat.add_assoc] at x1 x2
        have q0 := C3.cell (List.mem_cons_self ..) 0
        have q1 := C3.cell (List.mem_cons_self ..) 1
        clear hcell hX
        by_cases hwh : 1 ≤ what ∧ what ≤ 5
        · have t1 : decide (what < 1) = false := decide_eq_false (by omega)
          have t2 : decide (5 < what) = false := decide_eq_false (by omega)
          go_wp2_with fail
          refine (C3.deed HW.out what c off hoff).mono ?_
          rintro e w4 ⟨rfl, C4⟩
          obtain ⟨σ2, hσ2⟩ : ∃ τ, doS σ what c off = τ := ⟨_, rfl⟩
          have HW2 : Hid (σ2.W.length = 600) := Lib.hid (by rw [← hσ2, doS_W]; exact HW.out)
          have hfine := C3.fine HW.out
          rw [hσ2] at C4
          have HS2 := Lib.hid hσ2
          clear hσ2 C3 x0 x1 x2 q0 q1
          by_cases h5 : what = 5
          · subst h5
            rw [show doE σ.load 5 c = 0 from rfl]
            have x0 : w4.cell? ⟨b, o + k * 3, none⟩ = some (.int .i64 5) := C4.rowCell HD.out.1
            have x1 : w4.cell? ⟨b, o + k * 3 + 1, none⟩ = some (.int .i64 c) := by rw [Nat.add_assoc]; exact C4.rowCell HD.out.2.1
            have x2 : w4.cell? ⟨b, o + k * 3 + 2, none⟩ = some (.int .u64 (off : Int)) := by rw [Nat.add_assoc]; exact C4.rowCell HD.out.2.2
            have q0 := C4.cell (List.mem_cons_self ..) 0
            have q1 := C4.cell (List.mem_cons_self ..) 1
            go_wp2
            go_still_tail 11, (by kernel_rfl)
            change wpList _ _ _ _ _ w4.drew
            have C5 := C4.drew
            clear C4 x0 x1 x2 q0 q1
            generalize w4.drew = w5 at *
            have hrs := C5.rset stable_row hfine c 8 off rfl (by omega)
            go_wp2_with fail
            refine (show Calls _ _ #[_, _, .int .u64 8, _] _ _ from hrs).mono ?_
            rintro e w6 ⟨rv', rfl, C6⟩
            obtain ⟨A6, n6, c6, B6, m6, d6, rfl⟩ := C6.agg
            rw [show setS σ c 8 off = σ2 from HS2.out] at C6
            clear hrs C5
            have q0 := C6.cell (List.mem_cons_self ..) 0
            have q1 := C6.cell (List.mem_cons_self ..) 1
            have f0 := C6.frozen (List.mem_cons_self ..) 0
            have f1 := C6.frozen (List.mem_cons_self ..) 1
            have C8 := (C6.set 0 (.slice A6 n6 c6)).set 1 (.slice B6 m6 d6)
            clear C6
            go_wp2
            generalize (w6.setCell ⟨w2.heap.size, 0, none⟩ (.slice A6 n6 c6)).setCell ⟨w2.heap.size, 1, none⟩ (.slice B6 m6 d6) = w8 at *
            clear q0 q1 f0 f1
            obtain ⟨y0, hy0⟩ : ∃ y, getF σ2.load c 0 = y := ⟨_, rfl⟩
            obtain ⟨y8, hy8⟩ : ∃ y, getF σ2.load c 8 = y := ⟨_, rfl⟩
            have HY0 := Lib.hid hy0
            have HY8 := Lib.hid hy8
            clear hy0 hy8
            have z0 : ((y0 : Int) != y0) = false := by simp
            have z8 : ((y8 : Int) != y8) = false := by simp
            have x1 : w8.cell? ⟨b, o + k * 3 + 1, none⟩ = some (.int .i64 c) := by rw [Nat.add_assoc]; exact C8.rowCell HD.out.2.1
            have q0 := C8.cell (List.mem_cons_self ..) 0
            have q1 := C8.cell (List.mem_cons_self ..) 1
            have CC := C8
            clear C8
            have gi0 : (0 : Int) ≤ k := by omega
            have gi1 : (k : Int) < l.length := by omega
            go_wp2
            go_region_held3 (fun w' => w'.cell? ⟨b, o + k * 3 + 1, none⟩ = some (.int .i64 c) ∧ w'.cell? ⟨w2.heap.size, 0, none⟩ = some (.slice A6 n6 c6) ∧ w'.cell? ⟨w2.heap.size, 1, none⟩ = some (.slice B6 m6 d6) ∧
                Ctx base (fun _ => False) w w' (.pointer p) σ2 [(w2.heap.size, #[.slice A6 n6 c6, .slice B6 m6 d6], 67)] (fun w X => RefS (.agg #[.slice A6 n6 c6, .slice B6 m6 d6]) σ2 w X ∧ Row (fun b => ¬ X b) w (some ⟨b, o, none⟩) l.length 3 (deeds l)))
              (first | exact ⟨x1, q0, q1, CC.drew⟩ | exact ⟨by rw [Nat.add_assoc]; exact CC.rowCell HD.out.2.1, CC.cell (List.mem_cons_self ..) 0, CC.cell (List.mem_cons_self ..) 1, CC⟩)
              (first
                | (go_at_call 101; go_split_ands; (with_reducible refine Calls.mono (Ctx.stateC (by assumption) HY0) ?_); rintro e wn ⟨rfl, CC⟩)
                | (go_at_call 102; go_split_ands; (with_reducible refine Calls.mono (Ctx.headC (by assumption) HY8) ?_); rintro e wn ⟨rfl, CC⟩)
                | (go_at_call 121; go_split_ands; refine Calls.mono (Ctx.rgetZ (by assumption) HW2 HY0 HY8 _ (by simp)) ?_; rintro e wn ⟨rfl, CC⟩))
            clear z0 z8 x1 q0 q1 gi0 gi1
            go_wp2
            go_roundw
            case rel => exact ⟨k + 1, σ2, A6, n6, c6, B6, m6, d6, by omega, by go_num, HW2, CC⟩
            case measure => simp [intOf]; omega
          · have h14 : 1 ≤ what ∧ what ≤ 4 := by omega
            have t3 : (what == 5) = false := by rw [beq_eq_false_iff_ne]; exact h5
            clear h5
            obtain ⟨E, hE⟩ : ∃ E, doE σ.load what c = E := ⟨_, rfl⟩
            rw [hE]
            have HE := Lib.hid hE
            clear hE
            have x0 : w4.cell? ⟨b, o + k * 3, none⟩ = some (.int .i64 what) := C4.rowCell HD.out.1
            have x1 : w4.cell? ⟨b, o + k * 3 + 1, none⟩ = some (.int .i64 c) := by rw [Nat.add_assoc]; exact C4.rowCell HD.out.2.1
            have x2 : w4.cell? ⟨b, o + k * 3 + 2, none⟩ = some (.int .u64 (off : Int)) := by rw [Nat.add_assoc]; exact C4.rowCell HD.out.2.2
            have q0 := C4.cell (List.mem_cons_self ..) 0
            have q1 := C4.cell (List.mem_cons_self ..) 1
            have C5 := C4.drew
            have C5a := (C4.alloc #[.slice none 0 0, .slice none 0 0] 67).drew
            have hrs5 := C5.rdo stable_row hfine what c off h14
            have hrs5a := C5a.rdo stable_row hfine what c off h14
            rw [HE.out, HS2.out] at hrs5 hrs5a
            have gi0 : (0 : Int) ≤ k := by omega
            have gi1 : (k : Int) < l.length := by omega
            clear x2 C4
            go_wp2
            go_region_held3 (fun w' => w'.cell? ⟨b, o + k * 3, none⟩ = some (.int .i64 what) ∧ w'.cell? ⟨b, o + k * 3 + 1, none⟩ = some (.int .i64 c) ∧ w'.cell? ⟨w2.heap.size, 0, none⟩ = some (.slice A1 n1 c1) ∧ w'.cell? ⟨w2.heap.size, 1, none⟩ = some (.slice B1 m1 d1))
              (first
                | exact ⟨x0, x1, q0, q1⟩
                | exact ⟨C6.rowCell HD.out.1, by rw [Nat.add_assoc]; exact C6.rowCell HD.out.2.1, C6.cell (List.mem_cons_self ..) 0, C6.cell (List.mem_cons_self ..) 1⟩
                | exact ⟨C5a.rowCell HD.out.1, by rw [Nat.add_assoc]; exact C5a.rowCell HD.out.2.1, C5a.cell (List.mem_cons_of_mem _ (List.mem_cons_self ..)) 0, C5a.cell (List.mem_cons_of_mem _ (List.mem_cons_self ..)) 1⟩
                | exact ⟨(C6.alloc #[.slice none 0 0, .slice none 0 0] 67).rowCell HD.out.1, by rw [Nat.add_assoc]; exact (C6.alloc #[.slice none 0 0, .slice none 0 0] 67).rowCell HD.out.2.1, (C6.alloc #[.slice none 0 0, .slice none 0 0] 67).cell (List.mem_cons_of_mem _ (List.mem_cons_self ..)) 0, (C6.alloc #[.slice none 0 0, .slice none 0 0] 67).cell (List.mem_cons_of_mem _ (List.mem_cons_self ..)) 1⟩
                | exact ⟨C6.rowCell HD.out.1, by rw [Nat.add_assoc]; exact C6.rowCell HD.out.2.1, C6.cell (List.mem_cons_of_mem _ (List.mem_cons_self ..)) 0, C6.cell (List.mem_cons_of_mem _ (List.mem_cons_self ..)) 1⟩
                | exact ⟨(((C6.alloc #[.slice none 0 0, .slice none 0 0] 67).set 0 (.slice A6 n6 c6)).set 1 (.slice B6 m6 d6)).rowCell HD.out.1, by rw [Nat.add_assoc]; exact (((C6.alloc #[.slice none 0 0, .slice none 0 0] 67).set 0 (.slice A6 n6 c6)).set 1 (.slice B6 m6 d6)).rowCell HD.out.2.1, (((C6.alloc #[.slice none 0 0, .slice none 0 0] 67).set 0 (.slice A6 n6 c6)).set 1 (.slice B6 m6 d6)).cell (List.mem_cons_of_mem _ (List.mem_cons_self ..)) 0, (((C6.alloc #[.slice none 0 0, .slice none 0 0] 67).set 0 (.slice A6 n6 c6)).set 1 (.slice B6 m6 d6)).cell (List.mem_cons_of_mem _ (List.mem_cons_self ..)) 1⟩
                | exact ⟨((C6.set 0 (.slice A6 n6 c6)).set 1 (.slice B6 m6 d6)).rowCell HD.out.1, by rw [Nat.add_assoc]; exact ((C6.set 0 (.slice A6 n6 c6)).set 1 (.slice B6 m6 d6)).rowCell HD.out.2.1, ((C6.set 0 (.slice A6 n6 c6)).set 1 (.slice B6 m6 d6)).cell (List.mem_cons_of_mem _ (List.mem_cons_self ..)) 0, ((C6.set 0 (.slice A6 n6 c6)).set 1 (.slice B6 m6 d6)).cell (List.mem_cons_of_mem _ (List.mem_cons_self ..)) 1⟩
                | exact ⟨(C6.alloc #[.slice A6 n6 c6, .slice B6 m6 d6] 67).rowCell HD.out.1, by rw [Nat.add_assoc]; exact (C6.alloc #[.slice A6 n6 c6, .slice B6 m6 d6] 67).rowCell HD.out.2.1, (C6.alloc #[.slice A6 n6 c6, .slice B6 m6 d6] 67).cell (List.mem_cons_of_mem _ (List.mem_cons_self ..)) 0, (C6.alloc #[.slice A6 n6 c6, .slice B6 m6 d6] 67).cell (List.mem_cons_of_mem _ (List.mem_cons_self ..)) 1⟩)
              (first
                | (go_at_call 120; first | (with_reducible refine Calls.mono hrs5 ?_) | (with_reducible refine Calls.mono hrs5a ?_)
                   rintro e wn ⟨rv', rfl, C6⟩
                   obtain ⟨A6, n6, c6, B6, m6, d6, rfl⟩ := C6.agg
                   have z0 := C6.cell (List.mem_cons_self ..) 0
                   have z1 := C6.cell (List.mem_cons_self ..) 1
                   have zf0 := C6.frozen (List.mem_cons_self ..) 0
                   have zf1 := C6.frozen (List.mem_cons_self ..) 1))
            · have C7 := C6.alloc #[.slice A6 n6 c6, .slice B6 m6 d6] 67
              change Ctx _ _ _ (wn.alloc (Obj.cells #[.slice A6 n6 c6, .slice B6 m6 d6] 67)) _ _ ((wn.heap.size, #[.slice A6 n6 c6, .slice B6 m6 d6], 67) :: _) _ at C7
              clear hrs5 hrs5a C6 C5 C5a x0 x1 q0 q1 z0 z1 zf0 zf1 gi0 gi1
              generalize wn.alloc (Obj.cells #[.slice A6 n6 c6, .slice B6 m6 d6] 67) = w7 at *
              have p0 := C7.cell (List.mem_cons_self ..) 0
              have p1 := C7.cell (List.mem_cons_self ..) 1
              have f0 := C7.frozen (List.mem_cons_of_mem _ (List.mem_cons_self ..)) 0
              have f1 := C7.frozen (List.mem_cons_of_mem _ (List.mem_cons_self ..)) 1
              have q0 := C7.cell (List.mem_cons_of_mem _ (List.mem_cons_self ..)) 0
              have q1 := C7.cell (List.mem_cons_of_mem _ (List.mem_cons_self ..)) 1
              have C8 := (((C7.swap).set 0 (.slice A6 n6 c6)).set 1 (.slice B6 m6 d6)).drop2
              have zE : ((E : Int) != E) = false := by simp
              go_wp2
              change Ctx _ _ _ ((w7.setCell ⟨w2.heap.size, 0, none⟩ (.slice A6 n6 c6)).setCell ⟨w2.heap.size, 1, none⟩ (.slice B6 m6 d6)) _ _ [(w2.heap.size, #[.slice A6 n6 c6, .slice B6 m6 d6], 67)] _ at C8
              clear C7 p0 p1 f0 f1 q0 q1
              generalize (w7.setCell ⟨w2.heap.size, 0, none⟩ (.slice A6 n6 c6)).setCell ⟨w2.heap.size, 1, none⟩ (.slice B6 m6 d6) = w8 at *
              obtain ⟨y0, hy0⟩ : ∃ y, getF σ2.load c 0 = y := ⟨_, rfl⟩
              obtain ⟨y8, hy8⟩ : ∃ y, getF σ2.load c 8 = y := ⟨_, rfl⟩
              have HY0 := Lib.hid hy0
              have HY8 := Lib.hid hy8
              clear hy0 hy8
              have z0 : ((y0 : Int) != y0) = false := by simp
              have z8 : ((y8 : Int) != y8) = false := by simp
              have x1 : w8.cell? ⟨b, o + k * 3 + 1, none⟩ = some (.int .i64 c) := by rw [Nat.add_assoc]; exact C8.rowCell HD.out.2.1
              have q0 := C8.cell (List.mem_cons_self ..) 0
              have q1 := C8.cell (List.mem_cons_self ..) 1
              have CC := C8
              clear C8
              have gi0 : (0 : Int) ≤ k := by omega
              have gi1 : (k : Int) < l.length := by omega
              go_wp2
              go_region_held3 (fun w' => w'.cell? ⟨b, o + k * 3 + 1, none⟩ = some (.int .i64 c) ∧ w'.cell? ⟨w2.heap.size, 0, none⟩ = some (.slice A6 n6 c6) ∧ w'.cell? ⟨w2.heap.size, 1, none⟩ = some (.slice B6 m6 d6) ∧
                  Ctx base (fun _ => False) w w' (.pointer p) σ2 [(w2.heap.size, #[.slice A6 n6 c6, .slice B6 m6 d6], 67)] (fun w X => RefS (.agg #[.slice A6 n6 c6, .slice B6 m6 d6]) σ2 w X ∧ Row (fun b => ¬ X b) w (some ⟨b, o, none⟩) l.length 3 (deeds l)))
                (first | exact ⟨x1, q0, q1, CC.drew⟩ | exact ⟨by rw [Nat.add_assoc]; exact CC.rowCell HD.out.2.1, CC.cell (List.mem_cons_self ..) 0, CC.cell (List.mem_cons_self ..) 1, CC⟩)
                (first
                  | (go_at_call 101; go_split_ands; (with_reducible refine Calls.mono (Ctx.stateC (by assumption) HY0) ?_); rintro e wn ⟨rfl, CC⟩)
                  | (go_at_call 102; go_split_ands; (with_reducible refine Calls.mono (Ctx.headC (by assumption) HY8) ?_); rintro e wn ⟨rfl, CC⟩)
                  | (go_at_call 121; go_split_ands; refine Calls.mono (Ctx.rgetZ (by assumption) HW2 HY0 HY8 _ (by simp)) ?_; rintro e wn ⟨rfl, CC⟩))
              clear z0 z8 x1 q0 q1 gi0 gi1
              go_wp2
              go_roundw
              case rel => exact ⟨k + 1, σ2, A6, n6, c6, B6, m6, d6, by omega, by go_num, HW2, CC⟩
              case measure => simp [intOf]; omega
            · have C7 := (C6.set 0 (.slice A6 n6 c6)).set 1 (.slice B6 m6 d6)
              change Ctx _ _ _ ((wn.setCell ⟨w4.heap.size, 0, none⟩ (.slice A6 n6 c6)).setCell ⟨w4.heap.size, 1, none⟩ (.slice B6 m6 d6)) _ _ ((w4.heap.size, #[.slice A6 n6 c6, .slice B6 m6 d6], 67) :: _) _ at C7
              clear hrs5 hrs5a C6 C5 C5a x0 x1 q0 q1 z0 z1 zf0 zf1 gi0 gi1
              generalize (wn.setCell ⟨w4.heap.size, 0, none⟩ (.slice A6 n6 c6)).setCell ⟨w4.heap.size, 1, none⟩ (.slice B6 m6 d6) = w7 at *
              have p0 := C7.cell (List.mem_cons_self ..) 0
              have p1 := C7.cell (List.mem_cons_self ..) 1
              have f0 := C7.frozen (List.mem_cons_of_mem _ (List.mem_cons_self ..)) 0
              have f1 := C7.frozen (List.mem_cons_of_mem _ (List.mem_cons_self ..)) 1
              have q0 := C7.cell (List.mem_cons_of_mem _ (List.mem_cons_self ..)) 0
              have q1 := C7.cell (List.mem_cons_of_mem _ (List.mem_cons_self ..)) 1
              have C8 := (((C7.swap).set 0 (.slice A6 n6 c6)).set 1 (.slice B6 m6 d6)).drop2
              have zE : ((E : Int) != E) = false := by simp
              go_wp2
              change Ctx _ _ _ ((w7.setCell ⟨w2.heap.size, 0, none⟩ (.slice A6 n6 c6)).setCell ⟨w2.heap.size, 1, none⟩ (.slice B6 m6 d6)) _ _ [(w2.heap.size, #[.slice A6 n6 c6, .slice B6 m6 d6], 67)] _ at C8
              clear C7 p0 p1 f0 f1 q0 q1
              generalize (w7.setCell ⟨w2.heap.size, 0, none⟩ (.slice A6 n6 c6)).setCell ⟨w2.heap.size, 1, none⟩ (.slice B6 m6 d6) = w8 at *
              obtain ⟨y0, hy0⟩ : ∃ y, getF σ2.load c 0 = y := ⟨_, rfl⟩
              obtain ⟨y8, hy8⟩ : ∃ y, getF σ2.load c 8 = y := ⟨_, rfl⟩
              have HY0 := Lib.hid hy0
              have HY8 := Lib.hid hy8
              clear hy0 hy8
              have z0 : ((y0 : Int) != y0) = false := by simp
              have z8 : ((y8 : Int) != y8) = false := by simp
              have x1 : w8.cell? ⟨b, o + k * 3 + 1, none⟩ = some (.int .i64 c) := by rw [Nat.add_assoc]; exact C8.rowCell HD.out.2.1
              have q0 := C8.cell (List.mem_cons_self ..) 0
              have q1 := C8.cell (List.mem_cons_self ..) 1
              have CC := C8
              clear C8
              have gi0 : (0 : Int) ≤ k := by omega
              have gi1 : (k : Int) < l.length := by omega
              go_wp2
              go_region_held3 (fun w' => w'.cell? ⟨b, o + k * 3 + 1, none⟩ = some (.int .i64 c) ∧ w'.cell? ⟨w2.heap.size, 0, none⟩ = some (.slice A6 n6 c6) ∧ w'.cell? ⟨w2.heap.size, 1, none⟩ = some (.slice B6 m6 d6) ∧
                  Ctx base (fun _ => False) w w' (.pointer p) σ2 [(w2.heap.size, #[.slice A6 n6 c6, .slice B6 m6 d6], 67)] (fun w X => RefS (.agg #[.slice A6 n6 c6, .slice B6 m6 d6]) σ2 w X ∧ Row (fun b => ¬ X b) w (some ⟨b, o, none⟩) l.length 3 (deeds l)))
                (first | exact ⟨x1, q0, q1, CC.drew⟩ | exact ⟨by rw [Nat.add_assoc]; exact CC.rowCell HD.out.2.1, CC.cell (List.mem_cons_self ..) 0, CC.cell (List.mem_cons_self ..) 1, CC⟩)
                (first
                  | (go_at_call 101; go_split_ands; (with_reducible refine Calls.mono (Ctx.stateC (by assumption) HY0) ?_); rintro e wn ⟨rfl, CC⟩)
                  | (go_at_call 102; go_split_ands; (with_reducible refine Calls.mono (Ctx.headC (by assumption) HY8) ?_); rintro e wn ⟨rfl, CC⟩)
                  | (go_at_call 121; go_split_ands; refine Calls.mono (Ctx.rgetZ (by assumption) HW2 HY0 HY8 _ (by simp)) ?_; rintro e wn ⟨rfl, CC⟩))
              clear z0 z8 x1 q0 q1 gi0 gi1
              go_wp2
              go_roundw
              case rel => exact ⟨k + 1, σ2, A6, n6, c6, B6, m6, d6, by omega, by go_num, HW2, CC⟩
              case measure => simp [intOf]; omega
        · have hg := C3.done
          clear C3 q0 q1 x1 x2
          by_cases hw1 : what < 1
          · have t1 : decide (what < 1) = true := decide_eq_true hw1
            go_wp2
            go_ret
            exact ⟨rfl, hg⟩
          · have t1 : decide (what < 1) = false := decide_eq_false hw1
            have t2 : decide (5 < what) = true := decide_eq_true (by omega)
            go_wp2
            go_ret
            exact ⟨rfl, hg⟩
      · obtain rfl : k = l.length := by omega
        have g0 : decide ((l.length : Int) < l.length) = false := decide_eq_false (by omega)
        have hg := C3.done
        have hB := C3.box (List.mem_cons_self ..)
        have hfine := C3.fine HW.out
        obtain ⟨M, hM⟩ := C3.tx
        obtain ⟨X, hX⟩ := C3.know
        have hany := C3.any
        have hrf := hX.1.ref hfine
        obtain ⟨Aw, cw, Bw, dw, hrv, -, rB, -⟩ := hX.1
        have hP := fun w4 (hg : Grow wr w4) => puts_call (hM.grow hg) (by have := hfine.few; omega)
        have hA := fun w4 (hg : Grow wr w4) => all_call (hany.grow hg) s
        have hR := fun w4 (hg : Grow wr w4) => rall (hrf.grow hg) s
        have hsl := sts_len σ.load s 8
        have hpl := hfine.few
        simp only [Value.agg.injEq, Array.mk.injEq, List.cons.injEq, Value.slice.injEq, and_true] at hrv
        obtain ⟨⟨rfl, rfl, rfl⟩, rfl, rfl, rfl⟩ := hrv
        clear C3 hM hX hany hrf ho
        generalize sts σ.load s 8 = L at *
        have q0 : wr.cell? ⟨w2.heap.size, 0, none⟩ = some (.slice A1 σ.W.length c1) := by rw [cell_of_heap hB]; rfl
        have q1 : wr.cell? ⟨w2.heap.size, 1, none⟩ = some (.slice B1 σ.p.length d1) := by rw [cell_of_heap hB]; rfl
        have hfine' := Lib.hid hfine
        clear hfine
        go_wp2
        go_region_held3 (fun w' => w'.cell? ⟨w2.heap.size, 0, none⟩ = some (.slice A1 σ.W.length c1) ∧ w'.cell? ⟨w2.heap.size, 1, none⟩ = some (.slice B1 σ.p.length d1) ∧ Grow wr w')
          (first | exact ⟨q0, q1, (Below.refl _ _).drew⟩ | exact ⟨(cell_of_heap (hgf.heap hB) 0).trans rfl, (cell_of_heap (hgf.heap hB) 1).trans rfl, hgf⟩)
          (first
            | (go_at_call 122; go_split_ands; (with_reducible refine Calls.mono (hP _ (by assumption)) ?_); rintro e wn ⟨Ap, mp, rfl, r1, hgn⟩
               first | (have hgf := hgf.trans hgn) | (have hgf := (grow_drew wr).trans hgn))
            | (go_at_call 91; (with_reducible refine Calls.mono (same_selfP r1 (rB.grow hgf) rfl (by omega)) ?_); rintro e wn ⟨rfl, hgn⟩; have hgf := hgf.trans hgn)
            | (go_at_call 105; go_split_ands; (with_reducible refine Calls.mono (hA _ (by assumption)) ?_); rintro e wn ⟨A2, m2, rfl, r2, hgn⟩
               have hgf := hgf.trans hgn
               first | (have r3 := r3.grow hgn) | skip)
            | (go_at_call 124; go_split_ands; (with_reducible refine Calls.mono (hR _ (by assumption)) ?_); rintro e wn ⟨A3, m3, rfl, r3, hgn⟩
               have hgf := hgf.trans hgn
               first | (have r2 := r2.grow hgn) | skip)
            | (go_at_call 123; (with_reducible refine Calls.mono (ints_self r2 r3 (by omega)) ?_); rintro e wn ⟨rfl, hgn⟩; have hgf := hgf.trans hgn))
        all_goals
          have hg := hg.trans hgf
          clear hP hA hR q0 q1
          go_wp2
          go_ret
          exact ⟨rfl, hg⟩
  · have t0 : decide ((30 : Int) < l.length) = true := decide_eq_true (by omega)
    go_enter Try.func35, Try.ntmps35
    go_wp2_with fail
    refine (awake8 w).mono ?_
    rintro e w1 ⟨rfl, hg⟩
    go_wp2
    go_ret
    exact ⟨rfl, hg⟩
end Go.Proofs.Ck
