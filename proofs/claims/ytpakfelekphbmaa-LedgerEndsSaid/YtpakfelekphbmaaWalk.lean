/- The document's blocks, walked. -/
import Derived.Test.YtpakfelekphbmaaApply
import Derived.Test.YtpakfelekphbmaaRneed
import Derived.Test.YtpakfelekphbmaaGTx
namespace Go.Proofs.Ck
open Go Go.RowKit

theorem info213 : (Try.prog.info? 213).map (fun i => (i.zero, i.size, i.bytes)) = some (some (.agg #[.int .u64 0, .int .u64 0, .bool false, .int .i64 0, .int .u64 0]), 5, 40) := by kernel_rfl
def blk1 (b : Blk) : List Value := [.int .u64 (b.off : Int), .int .u64 (b.size : Int), .bool b.used, .int .i64 (b.owner : Int), .int .u64 (b.len : Int)]
def blks (l : List Blk) : List Value := l.flatMap blk1
theorem blks_snoc (l : List Blk) (b : Blk) : blks (l ++ [b]) = blks l ++ blk1 b := by simp [blks]
theorem blks_get {l : List Blk} {i : Nat} {b : Blk} (h : l[i]? = some b) : (blks l)[i * 5]? = some (.int .u64 (b.off : Int)) := by
  induction l generalizing i with
  | nil => simp at h
  | cons d l ih =>
    have e : blks (d :: l) = .int .u64 (d.off : Int) :: .int .u64 (d.size : Int) :: .bool d.used :: .int .i64 (d.owner : Int) :: .int .u64 (d.len : Int) :: blks l := rfl
    cases i with
    | zero =>
      simp only [List.getElem?_cons_zero, Option.some.injEq] at h
      subst h
      rfl
    | succ i =>
      rw [e, show (i + 1) * 5 = i * 5 + 1 + 1 + 1 + 1 + 1 by omega]
      simp only [List.getElem?_cons_succ] at h ⊢
      exact ih h
theorem take_snoc {α : Type} {l : List α} {k : Nat} {b : α} (h : l[k]? = some b) : l.take (k + 1) = l.take k ++ [b] := by
  rw [List.take_add_one, h]; rfl

set_option maxRecDepth 100000 in
set_option maxHeartbeats 8000000 in
theorem rwalkS {rv : Value} {σ : St} {w : World} {X : Nat → Prop} {bl : List Blk} (h : RefS rv σ w X) (hf : FineS σ) (hw : σ.W = fmtW 600 4800) (hlo : LowS σ) (hE : σ.load 16 = 4800) (hL : Lie σ.load 4800 3776 bl) :
    Calls Try.prog 168 #[rv] w fun e w' => (∃ A c, e = .returned (.tuple #[.slice A bl.length c, .int .i64 0]) ∧ Row (fun b => w.heap.size ≤ b) w' A bl.length 5 (blks bl)) ∧ Grow w w' := by
  obtain ⟨A, n, c, B, m, d, rfl⟩ := h.agg
  obtain ⟨i213, hi, hz, hs, hb⟩ := info_parts info213
  have hga : Grow w (w.alloc (.cells #[.slice A n c, .slice B m d] 67)) := (Below.refl _ _).alloc (Nat.le_refl _) _
  have hB := World.alloc_heap_new w (.cells #[.slice A n c, .slice B m d] 67)
  have h0 := h.grow hga
  have a0 : (w.alloc (.cells #[.slice A n c, .slice B m d] 67)).cell? ⟨w.heap.size, 0, none⟩ = some (.slice A n c) := by rw [cell_of_heap hB]; rfl
  have a1 : (w.alloc (.cells #[.slice A n c, .slice B m d] 67)).cell? ⟨w.heap.size, 1, none⟩ = some (.slice B m d) := by rw [cell_of_heap hB]; rfl
  have hck := rcheckS h0 hf hw hlo
  have hbl := hL.le
  clear h
  go_enter Try.func168, Try.ntmps168
  go_wp2_with fail
  generalize w.alloc (.cells #[.slice A n c, .slice B m d] 67) = wa at *
  refine hck.mono ?_
  rintro e w1 ⟨rfl, hg1⟩
  have h1 := (h0.grow hg1).ref hf.fine
  replace hB := hg1.heap hB
  replace hga := hga.trans hg1
  clear hck h0 a0 a1 hg1 hlo hw
  have hld := fun w' (hg' : Grow w1 w') => (h1.grow hg').load 16 (by omega)
  rw [hE] at hld
  go_wp2_with fail
  go_loopw [4, 5] (fun s t5 wr => ∃ k off : Nat, k ≤ bl.length ∧ t5 = .int .u64 (off : Int) ∧ off % 16 = 0 ∧ 3776 ≤ off ∧ off ≤ 4800 ∧ Grow w1 wr ∧ wr.ownsRow w1.heap.size 213 5 s k (blks (bl.take k)) ∧ Hid (Lie σ.load 4800 off (bl.drop k))) (fun _ t5 _ => 4800 - (intOf t5).toNat)
  case atStart => exact ⟨0, 3776, Nat.zero_le _, rfl, by omega, by omega, by omega, Below.refl _ _, World.ownsRow_nil _ _ _ _, Lib.hid hL⟩
  case round =>
    clear hL
    obtain ⟨k, off, hk, rfl, h16, h3776, hle, hg, hown, HL⟩ := hrel
    have hBr := hg.heap hB
    have b0 : wr.cell? ⟨w.heap.size, 0, none⟩ = some (.slice A n c) := by rw [cell_of_heap hBr]; rfl
    have b1 : wr.cell? ⟨w.heap.size, 1, none⟩ = some (.slice B m d) := by rw [cell_of_heap hBr]; rfl
    have hldr := hld wr hg
    go_wp2_with fail
    refine Calls.mono hldr ?_
    rintro e w2 ⟨rfl, hg2⟩
    replace hown := own_grow hown hg2
    replace hg2 := hg.trans hg2
    clear hldr b0 b1 hBr hg
    by_cases hlt : k < bl.length
    · obtain ⟨b, hbk⟩ : ∃ b, bl[k]? = some b := ⟨_, List.getElem?_eq_getElem hlt⟩
      have hdr : bl.drop k = b :: bl.drop (k + 1) := by
        rw [List.drop_eq_getElem_cons hlt]
        rw [List.getElem?_eq_getElem hlt, Option.some.injEq] at hbk
        rw [hbk]
      rw [hdr] at HL
      have htk : blks (bl.take (k + 1)) = blks (bl.take k) ++ blk1 b := by rw [take_snoc hbk, blks_snoc]
      have hLe := HL.out.le
      obtain ⟨l1, l2, l3, l4, l5, l6, l7⟩ := HL.out
      have hmy := (mayG_iff _ _ _).1 l2
      simp only [List.length_cons] at hLe
      have hl7 := l7.le
      have hrd := fun w' (hg' : Grow w1 w') => rread_good (h1.grow hg') off b.size b.owner 4800 b.used hE (by omega) (by omega) ((inG_iff _ _ _).2 ⟨h16, h3776, by omega, by omega⟩) ((inG_iff _ _ _).2 ⟨h16, h3776, by omega, by omega⟩) l2 l3 l4
      have hl8 := fun w' (hg' : Grow w1 w') => (h1.grow hg').load (off + 8) (by omega)
      obtain ⟨bo, s, u, o, ln⟩ := b
      simp only at l1 l2 l3 l4 l5 l6 l7 hmy hrd htk hl7
      subst l1
      have L7 := Lib.hid l7
      have HT := Lib.hid htk
      clear l2 l3 l4 l7 htk hdr hbk HL hE
      have g1 : decide ((bo : Int) < 4800) = true := decide_eq_true (by omega)
      have p8 : IntKind.u64.wrap ((bo : Int) + 8) = (bo : Int) + 8 := by rw [IntKind.wrap_u64]; omega
      have ps : IntKind.u64.wrap ((bo : Int) + (s : Int)) = ((bo + s : Nat) : Int) := by rw [IntKind.wrap_u64]; omega
      have hB2 := hg2.heap hB
      have b0 : w2.cell? ⟨w.heap.size, 0, none⟩ = some (.slice A n c) := by rw [cell_of_heap hB2]; rfl
      have b1 : w2.cell? ⟨w.heap.size, 1, none⟩ = some (.slice B m d) := by rw [cell_of_heap hB2]; rfl
      have hrdr := hrd w2 hg2
      clear hrd
      go_wp2_with fail
      refine Calls.mono hrdr ?_
      rintro e w3 ⟨rfl, hg3⟩
      replace hown := own_grow hown hg3
      replace hg3 := hg2.trans hg3
      clear hrdr b0 b1 hB2 hg2
      have hbase := hg3.size
      have hob : ∀ b', u4.ownBlock = some b' → b' < w3.heap.size := fun b' e => (hown.lt b' e).2
      cases u
      · have hg4 : Grow w1 ((w3.alloc (.cells #[.int .u64 (s : Int), .bool false, .int .i64 (o : Int)] 211)).alloc (.cells #[.int .u64 (bo : Int), .int .u64 (s : Int), .bool false, .int .i64 (o : Int), .int .u64 0] 213)) := (Below.alloc (Below.alloc hg3 hbase _) (by simp; omega) _)
        have q6 : ((w3.alloc (.cells #[.int .u64 (s : Int), .bool false, .int .i64 (o : Int)] 211)).alloc (.cells #[.int .u64 (bo : Int), .int .u64 (s : Int), .bool false, .int .i64 (o : Int), .int .u64 0] 213)).heap[w3.heap.size]? = some (.cells #[.int .u64 (s : Int), .bool false, .int .i64 (o : Int)] 211 (0, 0)) := (Below.heap_alloc _ _ _ (by simp)).trans (World.alloc_heap_new w3 _)
        have q8 : ((w3.alloc (.cells #[.int .u64 (s : Int), .bool false, .int .i64 (o : Int)] 211)).alloc (.cells #[.int .u64 (bo : Int), .int .u64 (s : Int), .bool false, .int .i64 (o : Int), .int .u64 0] 213)).heap[w3.heap.size + 1]? = some (.cells #[.int .u64 (bo : Int), .int .u64 (s : Int), .bool false, .int .i64 (o : Int), .int .u64 0] 213 (0, 0)) := by
          have := World.alloc_heap_new (w3.alloc (.cells #[.int .u64 (s : Int), .bool false, .int .i64 (o : Int)] 211)) (.cells #[.int .u64 (bo : Int), .int .u64 (s : Int), .bool false, .int .i64 (o : Int), .int .u64 0] 213)
          rw [World.size_alloc] at this
          exact this
        have q6' := World.alloc_heap_new w3 (.cells #[.int .u64 (s : Int), .bool false, .int .i64 (o : Int)] 211)
        have hown4 : World.ownsRow ((w3.alloc (.cells #[.int .u64 (s : Int), .bool false, .int .i64 (o : Int)] 211)).alloc (.cells #[.int .u64 (bo : Int), .int .u64 (s : Int), .bool false, .int .i64 (o : Int), .int .u64 0] 213)) w1.heap.size 213 5 u4 k (blks (bl.take k)) := (hown.alloc _).alloc _
        have x0 : (w3.alloc (.cells #[.int .u64 (s : Int), .bool false, .int .i64 (o : Int)] 211)).cell? ⟨w3.heap.size, 0, none⟩ = some (.int .u64 (s : Int)) := by rw [cell_of_heap q6']; rfl
        have y0 : ((w3.alloc (.cells #[.int .u64 (s : Int), .bool false, .int .i64 (o : Int)] 211)).alloc (.cells #[.int .u64 (bo : Int), .int .u64 (s : Int), .bool false, .int .i64 (o : Int), .int .u64 0] 213)).cell? ⟨w3.heap.size, 0, none⟩ = some (.int .u64 (s : Int)) := by rw [cell_of_heap q6]; rfl
        have x1 : (w3.alloc (.cells #[.int .u64 (s : Int), .bool false, .int .i64 (o : Int)] 211)).cell? ⟨w3.heap.size, 1, none⟩ = some (.bool false) := by rw [cell_of_heap q6']; rfl
        have y1 : ((w3.alloc (.cells #[.int .u64 (s : Int), .bool false, .int .i64 (o : Int)] 211)).alloc (.cells #[.int .u64 (bo : Int), .int .u64 (s : Int), .bool false, .int .i64 (o : Int), .int .u64 0] 213)).cell? ⟨w3.heap.size, 1, none⟩ = some (.bool false) := by rw [cell_of_heap q6]; rfl
        have x2 : (w3.alloc (.cells #[.int .u64 (s : Int), .bool false, .int .i64 (o : Int)] 211)).cell? ⟨w3.heap.size, 2, none⟩ = some (.int .i64 (o : Int)) := by rw [cell_of_heap q6']; rfl
        have y2 : ((w3.alloc (.cells #[.int .u64 (s : Int), .bool false, .int .i64 (o : Int)] 211)).alloc (.cells #[.int .u64 (bo : Int), .int .u64 (s : Int), .bool false, .int .i64 (o : Int), .int .u64 0] 213)).cell? ⟨w3.heap.size, 2, none⟩ = some (.int .i64 (o : Int)) := by rw [cell_of_heap q6]; rfl
        have z0 : ((w3.alloc (.cells #[.int .u64 (s : Int), .bool false, .int .i64 (o : Int)] 211)).alloc (.cells #[.int .u64 (bo : Int), .int .u64 (s : Int), .bool false, .int .i64 (o : Int), .int .u64 0] 213)).cell? ⟨w3.heap.size + 1, 0, none⟩ = some (.int .u64 (bo : Int)) := by rw [cell_of_heap q8]; rfl
        have z1 : ((w3.alloc (.cells #[.int .u64 (s : Int), .bool false, .int .i64 (o : Int)] 211)).alloc (.cells #[.int .u64 (bo : Int), .int .u64 (s : Int), .bool false, .int .i64 (o : Int), .int .u64 0] 213)).cell? ⟨w3.heap.size + 1, 1, none⟩ = some (.int .u64 (s : Int)) := by rw [cell_of_heap q8]; rfl
        have z2 : ((w3.alloc (.cells #[.int .u64 (s : Int), .bool false, .int .i64 (o : Int)] 211)).alloc (.cells #[.int .u64 (bo : Int), .int .u64 (s : Int), .bool false, .int .i64 (o : Int), .int .u64 0] 213)).cell? ⟨w3.heap.size + 1, 2, none⟩ = some (.bool false) := by rw [cell_of_heap q8]; rfl
        have z3 : ((w3.alloc (.cells #[.int .u64 (s : Int), .bool false, .int .i64 (o : Int)] 211)).alloc (.cells #[.int .u64 (bo : Int), .int .u64 (s : Int), .bool false, .int .i64 (o : Int), .int .u64 0] 213)).cell? ⟨w3.heap.size + 1, 3, none⟩ = some (.int .i64 (o : Int)) := by rw [cell_of_heap q8]; rfl
        have z4 : ((w3.alloc (.cells #[.int .u64 (s : Int), .bool false, .int .i64 (o : Int)] 211)).alloc (.cells #[.int .u64 (bo : Int), .int .u64 (s : Int), .bool false, .int .i64 (o : Int), .int .u64 0] 213)).cell? ⟨w3.heap.size + 1, 4, none⟩ = some (.int .u64 0) := by rw [cell_of_heap q8]; rfl
        clear hown hg3 q6' hld
        have hln : ln = 0 := by have := l6 rfl; exact this
        subst hln
        have hsz4 : w1.heap.size ≤ ((w3.alloc (.cells #[.int .u64 (s : Int), .bool false, .int .i64 (o : Int)] 211)).alloc (.cells #[.int .u64 (bo : Int), .int .u64 (s : Int), .bool false, .int .i64 (o : Int), .int .u64 0] 213)).heap.size := hg4.size
        go_wp2_with (at_builtin; refine wpList_push ((w3.alloc (.cells #[.int .u64 (s : Int), .bool false, .int .i64 (o : Int)] 211)).alloc (.cells #[.int .u64 (bo : Int), .int .u64 (s : Int), .bool false, .int .i64 (o : Int), .int .u64 0] 213)) rfl (.tmp 50) (.tmp 52) 207 rfl w1.heap.size 213 i213 _ 5 40 Try.underlying207 hi hz hs hb rfl (by decide) u4 k _ rfl hown4 #[.int .u64 (bo : Int), .int .u64 (s : Int), .bool false, .int .i64 (o : Int), .int .u64 0] (by rw [World.size_alloc, World.size_alloc]; rfl) rfl (by simp [Value.oneCell']) rfl (by unfold maxLen; omega) (by omega) hsz4 ?_)
        intro v' w9 hown9 ho9
        have hg9 : Grow w1 w9 := grow_own hg4 hown4 ho9
        have q9 := ho9.heap q6 (fun e => by have := hob _ e; omega)
        have y9 : w9.cell? ⟨w3.heap.size, 0, none⟩ = some (.int .u64 (s : Int)) := by rw [cell_of_heap q9]; rfl
        obtain ⟨A9, c9, rfl⟩ : ∃ A c, v' = .slice A (k + 1) c := by
          obtain ⟨g, c, _, e, _⟩ := own_form hown9 (by omega)
          exact ⟨_, c, e⟩
        clear x0 x1 x2 y0 y1 y2 z0 z1 z2 z3 z4 q8 hown4 ho9 hg4 q6 q9
        go_wp2
        go_roundw
        case rel => exact ⟨k + 1, bo + s, by omega, by go_num, by omega, by omega, by omega, hg9, by rw [HT.out]; exact hown9, Lib.hid L7.out⟩
        case measure => simp [intOf]; omega
      · have hg4 : Grow w1 ((w3.alloc (.cells #[.int .u64 (s : Int), .bool true, .int .i64 (o : Int)] 211)).alloc (.cells #[.int .u64 (bo : Int), .int .u64 (s : Int), .bool true, .int .i64 (o : Int), .int .u64 0] 213)) := (Below.alloc (Below.alloc hg3 hbase _) (by simp; omega) _)
        have q6 : ((w3.alloc (.cells #[.int .u64 (s : Int), .bool true, .int .i64 (o : Int)] 211)).alloc (.cells #[.int .u64 (bo : Int), .int .u64 (s : Int), .bool true, .int .i64 (o : Int), .int .u64 0] 213)).heap[w3.heap.size]? = some (.cells #[.int .u64 (s : Int), .bool true, .int .i64 (o : Int)] 211 (0, 0)) := (Below.heap_alloc _ _ _ (by simp)).trans (World.alloc_heap_new w3 _)
        have q8 : ((w3.alloc (.cells #[.int .u64 (s : Int), .bool true, .int .i64 (o : Int)] 211)).alloc (.cells #[.int .u64 (bo : Int), .int .u64 (s : Int), .bool true, .int .i64 (o : Int), .int .u64 0] 213)).heap[w3.heap.size + 1]? = some (.cells #[.int .u64 (bo : Int), .int .u64 (s : Int), .bool true, .int .i64 (o : Int), .int .u64 0] 213 (0, 0)) := by
          have := World.alloc_heap_new (w3.alloc (.cells #[.int .u64 (s : Int), .bool true, .int .i64 (o : Int)] 211)) (.cells #[.int .u64 (bo : Int), .int .u64 (s : Int), .bool true, .int .i64 (o : Int), .int .u64 0] 213)
          rw [World.size_alloc] at this
          exact this
        have q6' := World.alloc_heap_new w3 (.cells #[.int .u64 (s : Int), .bool true, .int .i64 (o : Int)] 211)
        have hown4 : World.ownsRow ((w3.alloc (.cells #[.int .u64 (s : Int), .bool true, .int .i64 (o : Int)] 211)).alloc (.cells #[.int .u64 (bo : Int), .int .u64 (s : Int), .bool true, .int .i64 (o : Int), .int .u64 0] 213)) w1.heap.size 213 5 u4 k (blks (bl.take k)) := (hown.alloc _).alloc _
        have x0 : (w3.alloc (.cells #[.int .u64 (s : Int), .bool true, .int .i64 (o : Int)] 211)).cell? ⟨w3.heap.size, 0, none⟩ = some (.int .u64 (s : Int)) := by rw [cell_of_heap q6']; rfl
        have y0 : ((w3.alloc (.cells #[.int .u64 (s : Int), .bool true, .int .i64 (o : Int)] 211)).alloc (.cells #[.int .u64 (bo : Int), .int .u64 (s : Int), .bool true, .int .i64 (o : Int), .int .u64 0] 213)).cell? ⟨w3.heap.size, 0, none⟩ = some (.int .u64 (s : Int)) := by rw [cell_of_heap q6]; rfl
        have x1 : (w3.alloc (.cells #[.int .u64 (s : Int), .bool true, .int .i64 (o : Int)] 211)).cell? ⟨w3.heap.size, 1, none⟩ = some (.bool true) := by rw [cell_of_heap q6']; rfl
        have y1 : ((w3.alloc (.cells #[.int .u64 (s : Int), .bool true, .int .i64 (o : Int)] 211)).alloc (.cells #[.int .u64 (bo : Int), .int .u64 (s : Int), .bool true, .int .i64 (o : Int), .int .u64 0] 213)).cell? ⟨w3.heap.size, 1, none⟩ = some (.bool true) := by rw [cell_of_heap q6]; rfl
        have x2 : (w3.alloc (.cells #[.int .u64 (s : Int), .bool true, .int .i64 (o : Int)] 211)).cell? ⟨w3.heap.size, 2, none⟩ = some (.int .i64 (o : Int)) := by rw [cell_of_heap q6']; rfl
        have y2 : ((w3.alloc (.cells #[.int .u64 (s : Int), .bool true, .int .i64 (o : Int)] 211)).alloc (.cells #[.int .u64 (bo : Int), .int .u64 (s : Int), .bool true, .int .i64 (o : Int), .int .u64 0] 213)).cell? ⟨w3.heap.size, 2, none⟩ = some (.int .i64 (o : Int)) := by rw [cell_of_heap q6]; rfl
        have z0 : ((w3.alloc (.cells #[.int .u64 (s : Int), .bool true, .int .i64 (o : Int)] 211)).alloc (.cells #[.int .u64 (bo : Int), .int .u64 (s : Int), .bool true, .int .i64 (o : Int), .int .u64 0] 213)).cell? ⟨w3.heap.size + 1, 0, none⟩ = some (.int .u64 (bo : Int)) := by rw [cell_of_heap q8]; rfl
        have z1 : ((w3.alloc (.cells #[.int .u64 (s : Int), .bool true, .int .i64 (o : Int)] 211)).alloc (.cells #[.int .u64 (bo : Int), .int .u64 (s : Int), .bool true, .int .i64 (o : Int), .int .u64 0] 213)).cell? ⟨w3.heap.size + 1, 1, none⟩ = some (.int .u64 (s : Int)) := by rw [cell_of_heap q8]; rfl
        have z2 : ((w3.alloc (.cells #[.int .u64 (s : Int), .bool true, .int .i64 (o : Int)] 211)).alloc (.cells #[.int .u64 (bo : Int), .int .u64 (s : Int), .bool true, .int .i64 (o : Int), .int .u64 0] 213)).cell? ⟨w3.heap.size + 1, 2, none⟩ = some (.bool true) := by rw [cell_of_heap q8]; rfl
        have z3 : ((w3.alloc (.cells #[.int .u64 (s : Int), .bool true, .int .i64 (o : Int)] 211)).alloc (.cells #[.int .u64 (bo : Int), .int .u64 (s : Int), .bool true, .int .i64 (o : Int), .int .u64 0] 213)).cell? ⟨w3.heap.size + 1, 3, none⟩ = some (.int .i64 (o : Int)) := by rw [cell_of_heap q8]; rfl
        have z4 : ((w3.alloc (.cells #[.int .u64 (s : Int), .bool true, .int .i64 (o : Int)] 211)).alloc (.cells #[.int .u64 (bo : Int), .int .u64 (s : Int), .bool true, .int .i64 (o : Int), .int .u64 0] 213)).cell? ⟨w3.heap.size + 1, 4, none⟩ = some (.int .u64 0) := by rw [cell_of_heap q8]; rfl
        clear hown hg3 q6' hld
        obtain ⟨l51, l52⟩ := l5 rfl
        have hl8r := hl8 _ hg4
        rw [l51, show ((bo + 8 : Nat) : Int) = (bo : Int) + 8 from rfl] at hl8r
        have HN : need ln ≤ s := by unfold need; omega
        have hnd := fun w' => rneed_ok ln (by omega) w'
        have g3 : decide ((s : Int) < ((need ln : Nat) : Int)) = false := decide_eq_false (by omega)
        have hB4 := hg4.heap hB
        have b0 : ((w3.alloc (.cells #[.int .u64 (s : Int), .bool true, .int .i64 (o : Int)] 211)).alloc (.cells #[.int .u64 (bo : Int), .int .u64 (s : Int), .bool true, .int .i64 (o : Int), .int .u64 0] 213)).cell? ⟨w.heap.size, 0, none⟩ = some (.slice A n c) := by rw [cell_of_heap hB4]; rfl
        have b1 : ((w3.alloc (.cells #[.int .u64 (s : Int), .bool true, .int .i64 (o : Int)] 211)).alloc (.cells #[.int .u64 (bo : Int), .int .u64 (s : Int), .bool true, .int .i64 (o : Int), .int .u64 0] 213)).cell? ⟨w.heap.size, 1, none⟩ = some (.slice B m d) := by rw [cell_of_heap hB4]; rfl
        clear hl8 l5 l6
        go_wp2_with fail
        refine Calls.mono hl8r ?_
        rintro e w5 ⟨rfl, hg5⟩
        have q65 := hg5.heap q6
        have q85 := hg5.heap q8
        have hown5 := own_grow hown4 hg5
        have hg15 := hg4.trans hg5
        have hgq : w3.heap.size + 1 < w5.heap.size := lt_of_heap q85
        clear hl8r hB4 b0 b1 x0 x1 x2 y0 y1 y2 z0 z1 z2 z3 z4 q6 q8 hown4 hg4 hg5
        have fz := frozen_of_heap q85 4
        have z4 : w5.cell? ⟨w3.heap.size + 1, 4, none⟩ = some (.int .u64 0) := by rw [cell_of_heap q85]; rfl
        have q67 : (w5.setCell ⟨w3.heap.size + 1, 4, none⟩ (.int .u64 (ln : Int))).heap[w3.heap.size]? = some (.cells #[.int .u64 (s : Int), .bool true, .int .i64 (o : Int)] 211 (0, 0)) := (Below.heap_setCell _ _ _ _ (by simp)).trans q65
        have q87 : (w5.setCell ⟨w3.heap.size + 1, 4, none⟩ (.int .u64 (ln : Int))).heap[w3.heap.size + 1]? = some (.cells #[.int .u64 (bo : Int), .int .u64 (s : Int), .bool true, .int .i64 (o : Int), .int .u64 (ln : Int)] 213 (0, 0)) := heap_setCell_row q85 (i := 4) (.int .u64 (ln : Int))
        have hown7 := own_moved hown5 (w' := w5.setCell ⟨w3.heap.size + 1, 4, none⟩ (.int .u64 (ln : Int))) (fun b' e => Below.heap_setCell _ _ _ _ (by have := hob _ e; simp; omega))
        have hg7 : Grow w1 (w5.setCell ⟨w3.heap.size + 1, 4, none⟩ (.int .u64 (ln : Int))) := hg15.setCell (p := ⟨w3.heap.size + 1, 4, none⟩) (by simp; omega) (.int .u64 (ln : Int))
        clear hown5 hg15 q65 q85
        go_wp2_with fail
        generalize w5.setCell ⟨w3.heap.size + 1, 4, none⟩ (.int .u64 (ln : Int)) = w7 at *
        clear fz z4
        refine Calls.mono (hnd w7) ?_
        rintro e w' ⟨rfl, rfl⟩
        clear hnd
        have y0 : w7.cell? ⟨w3.heap.size, 0, none⟩ = some (.int .u64 (s : Int)) := by rw [cell_of_heap q67]; rfl
        have z0 : w7.cell? ⟨w3.heap.size + 1, 0, none⟩ = some (.int .u64 (bo : Int)) := by rw [cell_of_heap q87]; rfl
        have z1 : w7.cell? ⟨w3.heap.size + 1, 1, none⟩ = some (.int .u64 (s : Int)) := by rw [cell_of_heap q87]; rfl
        have z2 : w7.cell? ⟨w3.heap.size + 1, 2, none⟩ = some (.bool true) := by rw [cell_of_heap q87]; rfl
        have z3 : w7.cell? ⟨w3.heap.size + 1, 3, none⟩ = some (.int .i64 (o : Int)) := by rw [cell_of_heap q87]; rfl
        have z4 : w7.cell? ⟨w3.heap.size + 1, 4, none⟩ = some (.int .u64 (ln : Int)) := by rw [cell_of_heap q87]; rfl
        have hsz7 := hg7.size
        have g4 : ¬ s < need ln := by omega
        clear HN l51 l52
        generalize need ln = nd at *
        go_wp2_with (at_builtin; refine wpList_push w7 rfl (.tmp 50) (.tmp 52) 207 rfl w1.heap.size 213 i213 _ 5 40 Try.underlying207 hi hz hs hb rfl (by decide) u4 k _ rfl hown7 #[.int .u64 (bo : Int), .int .u64 (s : Int), .bool true, .int .i64 (o : Int), .int .u64 (ln : Int)] rfl rfl (by simp [Value.oneCell']) rfl (by unfold maxLen; omega) (by omega) hsz7 ?_)
        intro v' w9 hown9 ho9
        have hg9 : Grow w1 w9 := grow_own hg7 hown7 ho9
        have q9 := ho9.heap q67 (fun e => by have := hob _ e; omega)
        have y9 : w9.cell? ⟨w3.heap.size, 0, none⟩ = some (.int .u64 (s : Int)) := by rw [cell_of_heap q9]; rfl
        obtain ⟨A9, c9, rfl⟩ : ∃ A c, v' = .slice A (k + 1) c := by
          obtain ⟨g, c, _, e, _⟩ := own_form hown9 (by omega)
          exact ⟨_, c, e⟩
        clear y0 z0 z1 z2 z3 z4 q87 hown7 ho9 hg7 q67 q9
        go_wp2
        go_roundw
        case rel => exact ⟨k + 1, bo + s, by omega, by go_num, by omega, by omega, by omega, hg9, by rw [HT.out]; exact hown9, Lib.hid L7.out⟩
        case measure => simp [intOf]; omega
    · obtain rfl : k = bl.length := by omega
      rw [List.drop_length] at HL
      have hoff : off = 4800 := HL.out
      have g1 : decide ((off : Int) < 4800) = false := decide_eq_false (by omega)
      rw [List.take_length] at hown
      obtain ⟨Z, cz, rfl, -, -, hr⟩ := Row.of_own hown
      clear hown HL hoff hE
      go_wp2
      go_ret2
      exact ⟨⟨Z, cz, rfl, hr.mono fun b _ hb => Nat.le_trans hga.size hb⟩, hga.trans hg2⟩
end Go.Proofs.Ck
