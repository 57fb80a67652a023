/- The lock's laws: awake. -/
import Derived.Test.YtpakfelekphbmaaGClient
import Derived.Test.YtpakfelekphbmaaFormed74
import Derived.Test.YtpakfelekphbmaaEq73
namespace Go.Proofs.Ck
open Go Go.RowKit

set_option maxRecDepth 100000 in
set_option maxHeartbeats 4000000 in
theorem awake18 (w : World) : Calls Try.prog 73 #[] w fun e w' => e = .returned (.bool true) ∧ Grow w w' := by
  go_enter Try.func73, Try.ntmps73
  go_wp2_with fail
  refine (formed74 (w := w) (A := none) (c := 0) (l := []) 4000 (by unfold fits; omega) Row.empty (by simp) (fun p hp => by cases hp)).mono ?_
  rintro e w1 ⟨base, v, rv, M, rfl, hP, hb, hg⟩
  have htx := hP.tx
  have hf0 : ∀ off, (off = 24 ∨ 48 ≤ off) → off < 3776 → (⟨fmtW 600 4000, []⟩ : St).load off = 0 := fun off h1 h2 => fmt_load 4000 off (by omega) h1 h2
  have hH : ∀ off p, off % 8 = 0 → off < 4800 → (⟨fmtW 600 4000, p⟩ : St).has off := fun off p h1 h2 => fmt_has 4000 off h1 h2 p
  obtain ⟨A, c, B, d, hrv, -⟩ := hP.ref
  have hrv' : ∃ n1 n2, rv = .agg #[.slice A n1 c, .slice B n2 d] := ⟨_, _, hrv⟩
  clear hrv
  have htx' := hP.tx
  clear hP
  obtain ⟨n1, n2, rfl⟩ := hrv'
  have hσ : fillS ⟨fmtW 600 4000, []⟩ (([] : List (Nat × Nat)).take 60) = ⟨fmtW 600 4000, []⟩ := rfl
  rw [hσ] at htx
  clear hσ htx'
  obtain ⟨pp, rfl⟩ := htx.any.ptr
  generalize hS0 : (⟨fmtW 600 4000, []⟩ : St) = σ at htx hf0
  have hp0 : σ.p.length = 0 := by rw [← hS0]; rfl
  have hh : ∀ off, off % 8 = 0 → off < 4800 → σ.has off := fun off h1 h2 => by rw [← hS0]; exact hH off [] h1 h2
  clear hS0 hH
  go_wp2_with fail
  have hg1 : Grow w1 (w1.alloc (Obj.cells #[Value.slice A n1 c, Value.slice B n2 d] 67)) := (Below.refl _ _).alloc (Nat.le_refl _) _
  have htx1 := htx.grow hg1
  have hg01 := hg.trans hg1
  clear hg hg1 htx
  generalize w1.alloc (Obj.cells #[Value.slice A n1 c, Value.slice B n2 d] 67) = w2 at htx1 hg01 ⊢
  refine (take_ok w2 2 (by omega)).mono ?_
  rintro e w3 ⟨rfl, hg3⟩
  rw [show ((2 + 1 : Nat) : Int) = 3 from rfl]
  have hg4 : Grow w3 (w3.alloc (Obj.cells #[Value.int .u64 24, Value.int .u64 3] 73)) := (Below.refl _ _).alloc (Nat.le_refl _) _
  have hq := World.alloc_heap_new w3 (Obj.cells #[Value.int .u64 24, Value.int .u64 3] 73)
  have htx3 := htx1.grow hg3
  have hMq : ¬ M w3.heap.size := fun h => by have := htx3.lt _ h; omega
  have htx4 := htx3.grow hg4
  have hg04 := (hg01.trans hg3).trans hg4
  clear htx1 hg01 hg3 hg4 htx3
  go_wp2_with fail
  generalize w3.alloc (Obj.cells #[Value.int .u64 24, Value.int .u64 3] 73) = w4 at hq htx4 hg04 ⊢
  generalize w3.heap.size = q at *
  have m1 := may_call htx4.any 2
  rw [show mayB σ.load 2 = true from by unfold mayB; rw [hf0 24 (.inl rfl) (by omega)]; rfl] at m1
  refine m1.mono ?_
  rintro e w5 ⟨rfl, hg5⟩
  have htx5 := htx4.grow hg5
  have hq5 := hg5.heap hq
  have hg05 := hg04.trans hg5
  clear m1 htx4 hq hg04 hg5
  have q0 : w5.cell? ⟨q, 0, none⟩ = some (.int .u64 24) := by rw [cell_of_heap hq5]; rfl
  have q1 : w5.cell? ⟨q, 1, none⟩ = some (.int .u64 3) := by rw [cell_of_heap hq5]; rfl
  go_wp2_with fail
  refine (store_call htx5 24 3 (by omega) (by omega) (by omega)).mono ?_
  rintro e w6 ⟨rfl, M6, htx6, ho6, hM6⟩
  have hq6 := ho6.heap hq5 hMq
  have hMq6 : ¬ M6 q := fun h => by
    rcases hM6 q h with h | h
    · exact hMq h
    · have := lt_of_heap hq5; omega
  have hb5 := htx5.base
  have hg06 : Grow w w6 := Below.trans hg05 (ho6.below hg05.size (fun k hk => by have := hb5 _ hk; omega))
  have hn6 := store_p σ 24 3
  have hl1 : ∀ o, (σ.store 24 3).load o = if o = 24 then 3 else σ.load o := load_store (hh 24 rfl (by omega)) 3
  have hh1 : (σ.store 24 3).has 896 := has_store.2 (hh 896 rfl (by omega))
  clear htx5 ho6 hM6 hq5 hMq q0 q1 hg05 hb5
  generalize σ.store 24 3 = σ1 at *
  go_wp2_with fail
  have m2 := may_call htx6.any 1
  rw [show mayB σ1.load 1 = false from by unfold mayB; rw [hl1 24]; simp [hl1, hf0]] at m2
  refine m2.mono ?_
  rintro e w7 ⟨rfl, hg7⟩
  have htx7 := htx6.grow hg7
  have hq7 := hg7.heap hq6
  have hg07 := hg06.trans hg7
  clear m2 htx6 hq6 hg06 hg7
  go_wp2_with fail
  refine (kill_ok htx7 2 (by omega) (by omega)).mono ?_
  rintro e w8 ⟨rfl, M8, htx8, ho8, hM8⟩
  have hq8 := ho8.heap hq7 hMq6
  have hb7 := htx7.base
  have hg08 : Grow w w8 := Below.trans hg07 (ho8.below hg07.size (fun k hk => by have := hb7 _ hk; omega))
  have hl2 : ∀ o, (σ1.store 896 2).load o = if o = 896 then 2 else σ1.load o := load_store hh1 2
  rw [show 64 + 416 * 2 = 896 from rfl] at htx8
  clear htx7 ho8 hM8 hq7 hMq6 hg07 hb7 hh1
  generalize σ1.store 896 2 = σ2 at *
  have e24 : σ2.load 24 = 3 := by rw [hl2, if_neg (by omega), hl1, if_pos rfl]
  have e896 : σ2.load 896 = 2 := by rw [hl2, if_pos rfl]
  have mb1 : mayB σ2.load 1 = true := by unfold mayB; rw [e24]; simp [e896]
  have mb2 : mayB σ2.load 2 = false := by unfold mayB; rw [e24]; simp
  go_wp2_with fail
  have ho := holder_ok htx8.any (by rw [e24]; omega) (by rw [e24]; omega)
  rw [e24] at ho
  refine ho.mono ?_
  rintro e w9 ⟨rfl, hg9⟩
  rw [show ((3 - 1 : Nat) : Int) = 2 from rfl]
  have htx9 := htx8.grow hg9
  have hq9 := hg9.heap hq8
  have hg09 := hg08.trans hg9
  clear ho htx8 hq8 hg08 hg9
  have q0 : w9.cell? ⟨q, 0, none⟩ = some (.int .u64 24) := by rw [cell_of_heap hq9]; rfl
  have q1 : w9.cell? ⟨q, 1, none⟩ = some (.int .u64 3) := by rw [cell_of_heap hq9]; rfl
  go_wp2_with fail
  have m3 := may_call htx9.any 1
  rw [mb1] at m3
  refine m3.mono ?_
  rintro e w10 ⟨rfl, hg10⟩
  have htx10 := htx9.grow hg10
  have hg010 := hg09.trans hg10
  clear m3 htx9 hq9 hg09 hg10 q0 q1
  go_wp2_with fail
  have m4 := may_call htx10.any 2
  rw [mb2] at m4
  refine m4.mono ?_
  rintro e w11 ⟨rfl, hg11⟩
  have hg011 := hg010.trans hg11
  clear m4 htx10 hg010 hg11
  go_wp2_with fail
  refine (leave w11).mono ?_
  rintro e w12 ⟨rfl, hg12⟩
  have hgz := hg011.trans hg12
  clear hg011 hg12 hl1 hl2 hf0 hh
  go_wp2
  go_ret
  exact ⟨rfl, hgz⟩
end Go.Proofs.Ck
