/- Blocks laid: the law's own function. -/
import Derived.Test.YtpakfelekphbmaaWalk
import Derived.Test.YtpakfelekphbmaaFormed108
import Derived.Test.YtpakfelekphbmaaClientPlays
namespace Go.Proofs.Ck
open Go Go.RowKit

def ValS (σ : St) : Prop := ∀ q ∈ σ.p, q.2 < 18446744073709551616
theorem ValS.store {σ : St} (h : ValS σ) (off x : Nat) (hx : x < 18446744073709551616) : ValS (σ.store off x) := by
  unfold St.store
  split
  · intro q hq
    unfold pput at hq
    simp only at hq
    split at hq
    · obtain ⟨r, hr, rfl⟩ := List.mem_map.1 hq
      split
      · exact hx
      · exact h r hr
    · rcases List.mem_append.1 hq with hq | hq
      · exact h q hq
      · rw [List.mem_singleton] at hq; subst hq; exact hx
  · exact h
theorem packG_lt64 (s : Nat) (u : Bool) (o : Nat) : packG s u o < 18446744073709551616 := by have := packG_lt s u o; omega
theorem layOne_val {σ : St} (h : ValS σ) (off : Nat) (q : Nat × Nat × Nat) : ValS (layOne σ off q) := by
  have h1 := pL_le q
  have h2 := pS_le q
  unfold layOne
  simp only
  split
  · exact ((h.store _ _ (packG_lt64 _ _ _)).store _ _ (packG_lt64 _ _ _)).store _ _ (by omega)
  · exact (h.store _ _ (packG_lt64 _ _ _)).store _ _ (packG_lt64 _ _ _)
theorem layS_val (l : List (Nat × Nat × Nat)) : ∀ (σ : St) (off : Nat), ValS σ → ValS (layS 4800 σ off l) := by
  induction l with
  | nil => intro σ off h; exact (h.store _ _ (packG_lt64 _ _ _)).store _ _ (packG_lt64 _ _ _)
  | cons q r ih =>
    intro σ off h
    unfold layS
    split
    · exact (h.store _ _ (packG_lt64 _ _ _)).store _ _ (packG_lt64 _ _ _)
    · exact ih _ _ (layOne_val h off q)
theorem plook_none {p : List (Nat × Nat)} {off : Nat} (h : off ∉ p.map (·.1)) : (plook p off).isSome = false := by
  rw [← Bool.not_eq_true]
  exact fun hh => h (plook_mem.1 hh)
/-- Words stored one by one, over nothing. -/
theorem fill_self {σ : St} (hf : FineS σ) (W : List Nat) (hW : σ.W = W) : fillS ⟨W, []⟩ σ.p = σ := by
  have key : ∀ k, k ≤ σ.p.length → fillS ⟨W, []⟩ (σ.p.take k) = ⟨W, σ.p.take k⟩ := by
    intro k
    induction k with
    | zero => intro _; simp [fillS]
    | succ k ih =>
      intro hk
      have hlt : k < σ.p.length := by omega
      rw [take_succ_getD' hlt, fillS_snoc, ih (by omega)]
      have hm : (σ.p.getD k (0, 0)) ∈ σ.p := by rw [List.getD_eq_getElem?_getD, List.getElem?_eq_getElem hlt]; exact List.getElem_mem _
      have hkey := hf.keys _ (List.mem_map.2 ⟨_, hm, rfl⟩)
      have hl := hf.words
      rw [hW] at hl
      have hnd := hf.nodup
      have hno : (σ.p.getD k (0, 0)).1 ∉ (σ.p.take k).map (·.1) := by
        intro hc
        have e : σ.p.map (·.1) = (σ.p.take k).map (·.1) ++ (σ.p.drop k).map (·.1) := by rw [← List.map_append, List.take_append_drop]
        rw [e, List.nodup_append] at hnd
        refine hnd.2.2 _ hc _ (List.mem_map.2 ⟨σ.p.getD k (0, 0), ?_, rfl⟩) rfl
        rw [List.drop_eq_getElem_cons hlt, List.getD_eq_getElem?_getD, List.getElem?_eq_getElem hlt]
        exact List.mem_cons_self ..
      unfold St.store
      rw [if_pos ⟨hkey.1, by show _ < W.length; rw [hl]; exact hkey.2⟩]
      show St.mk W (pput _ _ _) = _
      unfold pput
      rw [if_neg (by rw [plook_none hno]; simp)]
  have := key _ (Nat.le_refl _)
  rw [List.take_length] at this
  rw [this, ← hW]
theorem pcs_take {l : List (Nat × Nat × Nat)} {S : Nat → Prop} {w : World} {D : Option Addr} (m : Nat) (h : Row S w D l.length 3 (pcs l)) : Row S w D (l.take m).length 3 (pcs (l.take m)) := by
  refine ⟨by rw [pcs_length], fun hp => ?_⟩
  have hp2 : 0 < (pcs l).length := by
    rw [pcs_length] at hp ⊢
    rw [List.length_take] at hp
    omega
  obtain ⟨b, off, h1, h2, h3⟩ := h.at_ hp2
  refine ⟨b, off, h1, h2, fun j u hj => h3 j u ?_⟩
  have e : pcs l = pcs (l.take m) ++ pcs (l.drop m) := by unfold pcs; rw [← List.flatMap_append, List.take_append_drop]
  rw [e, List.getElem?_append_left (List.getElem?_eq_some_iff.1 hj).1]
  exact hj
theorem layA_le (l : List (Nat × Nat × Nat)) : ∀ off, (layA 4800 off l).length ≤ l.length + 1 := by
  induction l with
  | nil => intro off; exact Nat.le_refl _
  | cons q r ih =>
    intro off
    unfold layA
    split
    · simp
    · have := ih (off + pS q); simp only [List.length_cons]; omega
section
variable {base : Nat} {M0 : Nat → Prop} {w0 w w' : World} {v rv : Value} {σ τ : St} {bx : List Bx} {K : World → (Nat → Prop) → Prop}
theorem Ctx.storeT (h : Ctx base M0 w0 w v σ bx K) (hW : σ.W.length = 600) (a x : Nat) (ha : a < 18446744073709551616) (hx : x < 18446744073709551616) :
    Calls Try.prog 82 #[v, .int .u64 (a : Int), .int .u64 (x : Int)] w fun e w' => e = .returned (.tuple #[]) ∧ Ctx base M0 w0 w' v (σ.store a x) bx K :=
  h.write (r := .returned (.tuple #[])) fun M hM => store_call hM a x ha hx (by have := puts_few hM; omega)
theorem Ctx.rlay {D : Option Addr} {cD : Nat} {l : List (Nat × Nat × Nat)} (h : Ctx base M0 w0 w v σ bx fun w X => RefS rv τ w X ∧ K w X) (hK : Stable K) (hf : FineS τ) (hE : τ.load 16 = 4800) (hD : ∀ w X, K w X → Row (fun b => ¬ X b) w D l.length 3 (pcs l)) (hl : l.length ≤ 9223372036854775807) (hb : ∀ q ∈ l, q.1 < 256 ∧ q.2.1 < 256 ∧ q.2.2 < 65536) :
    Calls Try.prog 167 #[rv, .slice D l.length cD] w fun e w' => ∃ rv', e = .returned rv' ∧ Ctx base M0 w0 w' v σ bx fun w X => RefS rv' (layS 4800 τ 3776 l) w X ∧ K w X :=
  h.step (L := fun rv' w X => RefS rv' (layS 4800 τ 3776 l) w X ∧ K w X) (fun _ => stable_refS.and hK) fun _ hX hk => (rlayS hk.1 hX hf hE ((hD _ _ hk.2).mono fun _ hb _ => hb) hl hb).mono fun _ _ ⟨rv', h1, h2, h3⟩ => ⟨rv', h1, ⟨h2, hK _ _ _ _ (Next.of_grow h3) hk.2⟩, h3⟩
end
/-- The offsets of the blocks. -/
def atsL (l : List (Nat × Nat × Nat)) : List Nat := (layA 4800 3776 (l.take 20)).map Blk.off
def laidS (l : List (Nat × Nat × Nat)) : St := layS 4800 ⟨fmtW 600 4800, []⟩ 3776 (l.take 20)
/-- What 'laid' answers. -/
def LaidP (w0 : World) (l : List (Nat × Nat × Nat)) (K0 : World → (Nat → Prop) → Prop) (e : Ending) (w' : World) : Prop :=
  ∃ (base : Nat) (p : Option Addr) (A : Option Addr) (c : Nat), e = .returned (.tuple #[.pointer p, .slice A (atsL l).length c]) ∧
    Law base (fun _ => False) w0 w' (.pointer p) (laidS l).load [] fun w X => Row (fun b => ¬ X b) w A (atsL l).length 1 (u64s (atsL l)) ∧ K0 w X
theorem fmt_E : (⟨fmtW 600 4800, []⟩ : St).load 16 = 4800 := by
  unfold St.load St.old
  rw [if_pos ⟨by omega, by rw [fmtW_length]; omega⟩]
  exact fmt_word2

set_option maxRecDepth 100000 in
set_option maxHeartbeats 8000000 in
theorem laid_call {w0 w : World} {D : Option Addr} {cD : Nat} {l : List (Nat × Nat × Nat)} {K0 : World → (Nat → Prop) → Prop} (hg : Grow w0 w) (hD : Row (fun b => b < w.heap.size) w D l.length 3 (pcs l)) (hcap : l.length ≤ cD) (hl : l.length ≤ 9223372036854775807)
    (hb : ∀ q ∈ l, q.1 < 256 ∧ q.2.1 < 256 ∧ q.2.2 < 65536) (hK : Stable K0) (hk : K0 w (fun b => w.heap.size ≤ b)) :
    Calls Try.prog 111 #[.slice D l.length cD] w (LaidP w0 l K0) := by
  obtain ⟨σ0, hσ0⟩ : ∃ σ : St, ⟨fmtW 600 4800, []⟩ = σ := ⟨_, rfl⟩
  have h0f : FineS σ0 := by rw [← hσ0]; exact ⟨fmtW_length _ _, fun k hk => (by cases hk), List.nodup_nil⟩
  have h0E : σ0.load 16 = 4800 := by rw [← hσ0]; exact fmt_E
  have h0W : σ0.W = fmtW 600 4800 := by rw [← hσ0]
  have h0L : LowS σ0 := by rw [← hσ0]; exact fun k hk => (by cases hk)
  have h0V : ValS σ0 := by rw [← hσ0]; exact fun q hq => (by cases hq)
  obtain ⟨τ, hτ⟩ : ∃ τ, layS 4800 σ0 3776 (l.take 20) = τ := ⟨_, rfl⟩
  obtain ⟨bl, hbl⟩ : ∃ bl, layA 4800 3776 (l.take 20) = bl := ⟨_, rfl⟩
  have hlie := lay_lie (l.take 20) σ0 3776 h0f.words (by omega) (by omega)
  have hlow := layS_low h0L (Nat.le_refl 3776) (by omega) (l.take 20)
  have hfin := layS_fine (E := 4800) (l.take 20) σ0 3776 h0f
  have hval := layS_val (l.take 20) σ0 3776 h0V
  rw [hτ] at hlie hlow hfin hval
  rw [hbl] at hlie
  have hself := fill_self hfin σ0.W hlow.2
  have hl20 : (l.take 20).length ≤ 20 := by rw [List.length_take]; omega
  have hbl21 : bl.length ≤ 21 := by have := layA_le (l.take 20) 3776; rw [hbl] at this; omega
  have hats : atsL l = bl.map Blk.off := by unfold atsL; rw [hbl]
  have hlaid : laidS l = τ := by unfold laidS; rw [hσ0, hτ]
  have hb20 : ∀ q ∈ l.take 20, q.1 < 256 ∧ q.2.1 < 256 ∧ q.2.2 < 65536 := fun q hq => hb q (List.mem_of_mem_take hq)
  have hz0 : (⟨σ0.W, []⟩ : St) = σ0 := by rw [← hσ0]
  rw [hz0] at hself
  have FF := Lib.hid (⟨hself, hats, hlaid, hlie, hlow, hfin, hval, h0W⟩ : _ ∧ _ ∧ _ ∧ _ ∧ _ ∧ _ ∧ _ ∧ _)
  have HT := Lib.hid hτ
  have HLL := Lib.hid (⟨h0f, h0E, hb20, hl20⟩ : _ ∧ _ ∧ _ ∧ _)
  clear hself hats hlaid hlie hlow hfin hval hτ hbl h0L h0V hb h0f h0E hz0 h0W hb20
  have hform := formed_S (w0 := w0) (g := 108) (args := #[.int .u64 4800, .slice none 0 0]) (size := 4800) (A := none) (l := []) (K0 := fun w X => Row (fun b => ¬ X b) w D l.length 3 (pcs l) ∧ K0 w X) hg Row.empty (stable_row.and hK) ⟨hD.mono fun b hb hh => by omega, hk⟩ fun hl1 => formed108 (c := 0) 4800 (by unfold fits; omega) hl1 (by simp) (fun p hp => by cases hp)
  clear hD hk hg
  go_enter Try.func111, Try.ntmps111
  go_wp2_with fail
  refine hform.mono ?_
  clear hform
  rintro e w2 ⟨base, p, A', n1, c', B', n2, d', rfl, C2⟩
  rw [show fillS ⟨fmtW 600 4800, []⟩ (([] : List (Nat × Nat)).take 60) = σ0 from hσ0] at C2
  clear hσ0
  replace C2 := C2.less (L := fun w X => RefS (.agg #[.slice A' n1 c', .slice B' n2 d']) σ0 w X ∧ Row (fun b => ¬ X b) w D l.length 3 (pcs l) ∧ K0 w X) (stable_refS.and (stable_row.and hK)) (fun w X h => ⟨h.1, h.2.2⟩)
  have C3 := C2.alloc #[.slice A' n1 c', .slice B' n2 d'] 67
  clear C2
  by_cases h20 : 20 < l.length
  · have t0 : decide ((20 : Int) < (l.length : Int)) = true := decide_eq_true (by omega)
    have hN : (l.take 20).length = 20 := by rw [List.length_take]; omega
    have q0 := C3.cell (List.mem_cons_self ..) 0
    have q1 := C3.cell (List.mem_cons_self ..) 1
    have hcap2 : 20 ≤ cD ∨ l.length ≤ 20 := by omega
    have hlay := C3.rlay (l := l.take 20) (cD := cD) (stable_row.and hK) HLL.out.1 HLL.out.2.1 (fun w X h => pcs_take 20 h.1) (by have := HLL.out.2.2.2; omega) HLL.out.2.2.1
    rw [HT.out, hN] at hlay
    go_wp2_with fail
    generalize w2.alloc (Obj.cells #[.slice A' n1 c', .slice B' n2 d'] 67) = w3 at *
    generalize w2.heap.size = q5 at *
    refine hlay.mono ?_
    rintro e w4 ⟨rv4, rfl, C4⟩
    clear hlay q0 q1 C3 t0
    replace C4 := C4.less (L := fun w X => RefS rv4 τ w X ∧ K0 w X) (stable_refS.and hK) (fun w X h => ⟨h.1, h.2.2⟩)
    obtain ⟨X4, hX4⟩ := C4.know
    obtain ⟨A4, c4, B4, d4, rfl, -, -, -⟩ := hX4.1
    clear hX4 X4
    have f0 := C4.frozen (List.mem_cons_self ..) 0
    have f1 := C4.frozen (List.mem_cons_self ..) 1
    have q0 := C4.cell (List.mem_cons_self ..) 0
    have q1 := C4.cell (List.mem_cons_self ..) 1
    have C5 := (C4.set 0 (.slice A4 τ.W.length c4)).set 1 (.slice B4 τ.p.length d4)
    change Ctx _ _ _ _ _ _ ((q5, #[.slice A4 τ.W.length c4, .slice B4 τ.p.length d4], 67) :: []) _ at C5
    clear C4
    go_wp2_with fail
    generalize (w4.setCell ⟨q5, 0, none⟩ (.slice A4 τ.W.length c4)).setCell ⟨q5, 1, none⟩ (.slice B4 τ.p.length d4) = w5 at *
    clear f0 f1 q0 q1
    have hpl : τ.p.length ≤ 600 := FF.out.2.2.2.2.2.1.fine.few
    go_loopw [6] (fun i wr => ∃ k : Nat, k ≤ τ.p.length ∧ i = .int .i64 (k : Int) ∧ Ctx base (fun _ => False) w0 wr (.pointer p) (fillS σ0 (τ.p.take k)) [(q5, #[.slice A4 τ.W.length c4, .slice B4 τ.p.length d4], 67)] (fun w X => RefS (.agg #[.slice A4 τ.W.length c4, .slice B4 τ.p.length d4]) τ w X ∧ K0 w X)) (fun i _ => τ.p.length - (intOf i).toNat)
    case atStart => exact ⟨0, Nat.zero_le _, rfl, by rw [List.take_zero]; exact C5⟩
    case round =>
      clear C5
      obtain ⟨k, hk, rfl, C6⟩ := hrel
      have q0 := C6.cell (List.mem_cons_self ..) 0
      have q1 := C6.cell (List.mem_cons_self ..) 1
      by_cases hlt : k < τ.p.length
      · have hnx : fillS σ0 (τ.p.take (k + 1)) = (fillS σ0 (τ.p.take k)).store (τ.p.getD k (0, 0)).1 (τ.p.getD k (0, 0)).2 := by rw [take_succ_getD' hlt, fillS_snoc]
        have hm : (τ.p.getD k (0, 0)) ∈ τ.p := by rw [List.getD_eq_getElem?_getD, List.getElem?_eq_getElem hlt]; exact List.getElem_mem _
        have hk1 := (FF.out.2.2.2.2.2.1.keys _ (List.mem_map.2 ⟨_, hm, rfl⟩)).2
        have hv1 := FF.out.2.2.2.2.2.2.1 _ hm
        have hW6 : (fillS σ0 (τ.p.take k)).W.length = 600 := by rw [fillS_W, FF.out.2.2.2.2.2.2.2, fmtW_length]
        obtain ⟨X6, hX6, -⟩ := C6.know
        obtain ⟨A6, c6, B6, d6, he6, -, hB6, -⟩ := hX6
        simp only [Value.agg.injEq, Array.mk.injEq, List.cons.injEq, Value.slice.injEq, true_and, and_true] at he6
        obtain ⟨⟨rfl, rfl⟩, rfl, rfl⟩ := he6
        obtain ⟨b, o, rfl, -, hc⟩ := hB6.pos (by omega) (by omega)
        have hx1 := hc (k * 2) _ (puts_get hlt).1
        have hx2 := hc (k * 2 + 1) _ (puts_get hlt).2
        rw [← Nat.add_assoc] at hx2
        have g0 : decide ((k : Int) < τ.p.length) = true := decide_eq_true (by omega)
        have gi0 : (0 : Int) ≤ k := by omega
        have gi1 : (k : Int) < τ.p.length := by omega
        clear hc hB6 hm X6
        generalize τ.p.getD k (0, 0) = pq at hnx hk1 hv1 hx1 hx2
        obtain ⟨p1, p2⟩ := pq
        simp only at hnx hk1 hv1 hx1 hx2
        have HS := C6.drew.storeT hW6 p1 p2 (by omega) hv1
        have HNX := Lib.hid hnx
        clear hnx hW6 C6
        go_wp2
        go_still_tail 13, (by kernel_rfl)
        change wpList _ _ _ _ _ wr.drew
        go_wp2_with fail
        refine HS.mono ?_
        rintro e w6 ⟨rfl, C7⟩
        clear HS hx1 hx2 q0 q1
        go_wp2
        go_roundw
        case rel => exact ⟨k + 1, by omega, by go_num, by rw [HNX.out]; exact C7⟩
        case measure => simp [intOf]; omega
      · obtain rfl : k = τ.p.length := by omega
        have g0 : decide ((τ.p.length : Int) < τ.p.length) = false := decide_eq_false (by omega)
        rw [List.take_length, FF.out.1] at C6
        obtain ⟨X6, hX6, -⟩ := C6.know
        have hwk := rwalkS hX6 FF.out.2.2.2.2.2.1 (FF.out.2.2.2.2.1.2.trans FF.out.2.2.2.2.2.2.2) FF.out.2.2.2.2.1.1 (by rw [FF.out.2.2.2.1.2 16 (by omega)]; exact HLL.out.2.1) FF.out.2.2.2.1.1
        have HW6 := Lib.hid hwk
        clear hwk hX6 X6 hpl
        go_wp2_with fail
        refine HW6.out.mono ?_
        rintro e w7 ⟨⟨A7, c7, rfl, hr7⟩, hg7⟩
        have C7 := C6.grow hg7
        clear HW6 C6 q0 q1
        obtain ⟨i22, hi, hz, hs, hby⟩ := info_parts info22
        go_wp2_with fail
        go_loopw [9, 10] (fun s i wx => ∃ k : Nat, k ≤ bl.length ∧ i = .int .i64 (k : Int) ∧ Grow w7 wx ∧ wx.ownsRow w7.heap.size 22 1 s k (u64s ((bl.map Blk.off).take k))) (fun _ i _ => bl.length - (intOf i).toNat)
        case atStart => exact ⟨0, Nat.zero_le _, rfl, Below.refl _ _, World.ownsRow_nil _ _ _ _⟩
        case round =>
          obtain ⟨k, hk, rfl, hg8, hown⟩ := hrel
          by_cases hlt : k < bl.length
          · have g1 : decide ((k : Int) < bl.length) = true := decide_eq_true (by omega)
            obtain ⟨bk, hbk⟩ : ∃ b, bl[k]? = some b := ⟨_, List.getElem?_eq_getElem hlt⟩
            have hnx : u64s ((bl.map Blk.off).take (k + 1)) = u64s ((bl.map Blk.off).take k) ++ [.int .u64 (bk.off : Int)] := by
              rw [take_snoc (b := bk.off) (by rw [List.getElem?_map, hbk]; rfl)]
              simp [u64s]
            obtain ⟨b, o, rfl, -, hc⟩ := (hr7.grow hg8).pos (by omega) (by omega)
            have hx1 := hc (k * 5) _ (blks_get hbk)
            have HNX := Lib.hid hnx
            have gi0 : (0 : Int) ≤ k := by omega
            have gi1 : (k : Int) < bl.length := by omega
            have hbase := hg8.size
            clear hnx hc hbk
            generalize bk.off = bo at *
            go_wp2_with (at_builtin; refine wpList_push wr rfl (.tmp 55) (.tmp 61) 27 rfl w7.heap.size 22 i22 _ 1 8 Try.underlying27 hi hz hs hby rfl (by decide) u9 k _ rfl hown #[.int .u64 (bo : Int)] rfl rfl (by simp [Value.oneCell']) rfl (by unfold maxLen; omega) (by omega) hbase ?_)
            intro v' w9 hown9 ho9
            have hg9 : Grow w7 w9 := grow_own hg8 hown ho9
            obtain ⟨A9, c9, rfl⟩ : ∃ A c, v' = .slice A (k + 1) c := by
              obtain ⟨g, c, _, e, _⟩ := own_form hown9 (by omega)
              exact ⟨_, c, e⟩
            clear hown ho9 hx1
            go_wp2
            go_roundw
            case rel => exact ⟨k + 1, by omega, by go_num, hg9, by rw [HNX.out]; exact hown9⟩
            case measure => simp [intOf]; omega
          · obtain rfl : k = bl.length := by omega
            have g1 : decide ((bl.length : Int) < bl.length) = false := decide_eq_false (by omega)
            have hml : (bl.map Blk.off).length = bl.length := List.length_map ..
            rw [show (bl.map Blk.off).take bl.length = bl.map Blk.off by rw [← hml, List.take_length]] at hown
            obtain ⟨Z, cz, rfl, -, -, hr⟩ := Row.of_own hown
            have C9 := (C7.bare.addRow hg8 hr).law (by rw [FF.out.2.2.2.2.1.2, FF.out.2.2.2.2.2.2.2, fmtW_length])
            clear hown hr7 C7 hg8 hr hg7
            go_wp2
            go_ret2
            refine ⟨base, p, Z, cz, by rw [FF.out.2.1, hml]; rfl, ?_⟩
            rw [FF.out.2.1, FF.out.2.2.1, hml]
            exact C9.less (stable_row.and hK) fun w X h => ⟨h.1, h.2.2⟩
  · have t0 : decide ((20 : Int) < (l.length : Int)) = false := decide_eq_false (by omega)
    have hN : (l.take 20).length = l.length := by rw [List.length_take]; omega
    have q0 := C3.cell (List.mem_cons_self ..) 0
    have q1 := C3.cell (List.mem_cons_self ..) 1
    have hcap2 : 20 ≤ cD ∨ l.length ≤ 20 := by omega
    have hlay := C3.rlay (l := l.take 20) (cD := cD) (stable_row.and hK) HLL.out.1 HLL.out.2.1 (fun w X h => pcs_take 20 h.1) (by have := HLL.out.2.2.2; omega) HLL.out.2.2.1
    rw [HT.out, hN] at hlay
    go_wp2_with fail
    generalize w2.alloc (Obj.cells #[.slice A' n1 c', .slice B' n2 d'] 67) = w3 at *
    generalize w2.heap.size = q5 at *
    refine hlay.mono ?_
    rintro e w4 ⟨rv4, rfl, C4⟩
    clear hlay q0 q1 C3 t0
    replace C4 := C4.less (L := fun w X => RefS rv4 τ w X ∧ K0 w X) (stable_refS.and hK) (fun w X h => ⟨h.1, h.2.2⟩)
    obtain ⟨X4, hX4⟩ := C4.know
    obtain ⟨A4, c4, B4, d4, rfl, -, -, -⟩ := hX4.1
    clear hX4 X4
    have f0 := C4.frozen (List.mem_cons_self ..) 0
    have f1 := C4.frozen (List.mem_cons_self ..) 1
    have q0 := C4.cell (List.mem_cons_self ..) 0
    have q1 := C4.cell (List.mem_cons_self ..) 1
    have C5 := (C4.set 0 (.slice A4 τ.W.length c4)).set 1 (.slice B4 τ.p.length d4)
    change Ctx _ _ _ _ _ _ ((q5, #[.slice A4 τ.W.length c4, .slice B4 τ.p.length d4], 67) :: []) _ at C5
    clear C4
    go_wp2_with fail
    generalize (w4.setCell ⟨q5, 0, none⟩ (.slice A4 τ.W.length c4)).setCell ⟨q5, 1, none⟩ (.slice B4 τ.p.length d4) = w5 at *
    clear f0 f1 q0 q1
    have hpl : τ.p.length ≤ 600 := FF.out.2.2.2.2.2.1.fine.few
    go_loopw [6] (fun i wr => ∃ k : Nat, k ≤ τ.p.length ∧ i = .int .i64 (k : Int) ∧ Ctx base (fun _ => False) w0 wr (.pointer p) (fillS σ0 (τ.p.take k)) [(q5, #[.slice A4 τ.W.length c4, .slice B4 τ.p.length d4], 67)] (fun w X => RefS (.agg #[.slice A4 τ.W.length c4, .slice B4 τ.p.length d4]) τ w X ∧ K0 w X)) (fun i _ => τ.p.length - (intOf i).toNat)
    case atStart => exact ⟨0, Nat.zero_le _, rfl, by rw [List.take_zero]; exact C5⟩
    case round =>
      clear C5
      obtain ⟨k, hk, rfl, C6⟩ := hrel
      have q0 := C6.cell (List.mem_cons_self ..) 0
      have q1 := C6.cell (List.mem_cons_self ..) 1
      by_cases hlt : k < τ.p.length
      · have hnx : fillS σ0 (τ.p.take (k + 1)) = (fillS σ0 (τ.p.take k)).store (τ.p.getD k (0, 0)).1 (τ.p.getD k (0, 0)).2 := by rw [take_succ_getD' hlt, fillS_snoc]
        have hm : (τ.p.getD k (0, 0)) ∈ τ.p := by rw [List.getD_eq_getElem?_getD, List.getElem?_eq_getElem hlt]; exact List.getElem_mem _
        have hk1 := (FF.out.2.2.2.2.2.1.keys _ (List.mem_map.2 ⟨_, hm, rfl⟩)).2
        have hv1 := FF.out.2.2.2.2.2.2.1 _ hm
        have hW6 : (fillS σ0 (τ.p.take k)).W.length = 600 := by rw [fillS_W, FF.out.2.2.2.2.2.2.2, fmtW_length]
        obtain ⟨X6, hX6, -⟩ := C6.know
        obtain ⟨A6, c6, B6, d6, he6, -, hB6, -⟩ := hX6
        simp only [Value.agg.injEq, Array.mk.injEq, List.cons.injEq, Value.slice.injEq, true_and, and_true] at he6
        obtain ⟨⟨rfl, rfl⟩, rfl, rfl⟩ := he6
        obtain ⟨b, o, rfl, -, hc⟩ := hB6.pos (by omega) (by omega)
        have hx1 := hc (k * 2) _ (puts_get hlt).1
        have hx2 := hc (k * 2 + 1) _ (puts_get hlt).2
        rw [← Nat.add_assoc] at hx2
        have g0 : decide ((k : Int) < τ.p.length) = true := decide_eq_true (by omega)
        have gi0 : (0 : Int) ≤ k := by omega
        have gi1 : (k : Int) < τ.p.length := by omega
        clear hc hB6 hm X6
        generalize τ.p.getD k (0, 0) = pq at hnx hk1 hv1 hx1 hx2
        obtain ⟨p1, p2⟩ := pq
        simp only at hnx hk1 hv1 hx1 hx2
        have HS := C6.drew.storeT hW6 p1 p2 (by omega) hv1
        have HNX := Lib.hid hnx
        clear hnx hW6 C6
        go_wp2
        go_still_tail 13, (by kernel_rfl)
        change wpList _ _ _ _ _ wr.drew
        go_wp2_with fail
        refine HS.mono ?_
        rintro e w6 ⟨rfl, C7⟩
        clear HS hx1 hx2 q0 q1
        go_wp2
        go_roundw
        case rel => exact ⟨k + 1, by omega, by go_num, by rw [HNX.out]; exact C7⟩
        case measure => simp [intOf]; omega
      · obtain rfl : k = τ.p.length := by omega
        have g0 : decide ((τ.p.length : Int) < τ.p.length) = false := decide_eq_false (by omega)
        rw [List.take_length, FF.out.1] at C6
        obtain ⟨X6, hX6, -⟩ := C6.know
        have hwk := rwalkS hX6 FF.out.2.2.2.2.2.1 (FF.out.2.2.2.2.1.2.trans FF.out.2.2.2.2.2.2.2) FF.out.2.2.2.2.1.1 (by rw [FF.out.2.2.2.1.2 16 (by omega)]; exact HLL.out.2.1) FF.out.2.2.2.1.1
        have HW6 := Lib.hid hwk
        clear hwk hX6 X6 hpl
        go_wp2_with fail
        refine HW6.out.mono ?_
        rintro e w7 ⟨⟨A7, c7, rfl, hr7⟩, hg7⟩
        have C7 := C6.grow hg7
        clear HW6 C6 q0 q1
        obtain ⟨i22, hi, hz, hs, hby⟩ := info_parts info22
        go_wp2_with fail
        go_loopw [9, 10] (fun s i wx => ∃ k : Nat, k ≤ bl.length ∧ i = .int .i64 (k : Int) ∧ Grow w7 wx ∧ wx.ownsRow w7.heap.size 22 1 s k (u64s ((bl.map Blk.off).take k))) (fun _ i _ => bl.length - (intOf i).toNat)
        case atStart => exact ⟨0, Nat.zero_le _, rfl, Below.refl _ _, World.ownsRow_nil _ _ _ _⟩
        case round =>
          obtain ⟨k, hk, rfl, hg8, hown⟩ := hrel
          by_cases hlt : k < bl.length
          · have g1 : decide ((k : Int) < bl.length) = true := decide_eq_true (by omega)
            obtain ⟨bk, hbk⟩ : ∃ b, bl[k]? = some b := ⟨_, List.getElem?_eq_getElem hlt⟩
            have hnx : u64s ((bl.map Blk.off).take (k + 1)) = u64s ((bl.map Blk.off).take k) ++ [.int .u64 (bk.off : Int)] := by
              rw [take_snoc (b := bk.off) (by rw [List.getElem?_map, hbk]; rfl)]
              simp [u64s]
            obtain ⟨b, o, rfl, -, hc⟩ := (hr7.grow hg8).pos (by omega) (by omega)
            have hx1 := hc (k * 5) _ (blks_get hbk)
            have HNX := Lib.hid hnx
            have gi0 : (0 : Int) ≤ k := by omega
            have gi1 : (k : Int) < bl.length := by omega
            have hbase := hg8.size
            clear hnx hc hbk
            generalize bk.off = bo at *
            go_wp2_with (at_builtin; refine wpList_push wr rfl (.tmp 55) (.tmp 61) 27 rfl w7.heap.size 22 i22 _ 1 8 Try.underlying27 hi hz hs hby rfl (by decide) u9 k _ rfl hown #[.int .u64 (bo : Int)] rfl rfl (by simp [Value.oneCell']) rfl (by unfold maxLen; omega) (by omega) hbase ?_)
            intro v' w9 hown9 ho9
            have hg9 : Grow w7 w9 := grow_own hg8 hown ho9
            obtain ⟨A9, c9, rfl⟩ : ∃ A c, v' = .slice A (k + 1) c := by
              obtain ⟨g, c, _, e, _⟩ := own_form hown9 (by omega)
              exact ⟨_, c, e⟩
            clear hown ho9 hx1
            go_wp2
            go_roundw
            case rel => exact ⟨k + 1, by omega, by go_num, hg9, by rw [HNX.out]; exact hown9⟩
            case measure => simp [intOf]; omega
          · obtain rfl : k = bl.length := by omega
            have g1 : decide ((bl.length : Int) < bl.length) = false := decide_eq_false (by omega)
            have hml : (bl.map Blk.off).length = bl.length := List.length_map ..
            rw [show (bl.map Blk.off).take bl.length = bl.map Blk.off by rw [← hml, List.take_length]] at hown
            obtain ⟨Z, cz, rfl, -, -, hr⟩ := Row.of_own hown
            have C9 := (C7.bare.addRow hg8 hr).law (by rw [FF.out.2.2.2.2.1.2, FF.out.2.2.2.2.2.2.2, fmtW_length])
            clear hown hr7 C7 hg8 hr hg7
            go_wp2
            go_ret2
            refine ⟨base, p, Z, cz, by rw [FF.out.2.1, hml]; rfl, ?_⟩
            rw [FF.out.2.1, FF.out.2.2.1, hml]
            exact C9.less (stable_row.and hK) fun w X h => ⟨h.1, h.2.2⟩
end Go.Proofs.Ck
