/- LockTells: the walk. -/
import Derived.Test.YtpakfelekphbmaaRef8
import Derived.Deep.RegionHeld3
namespace Go.Proofs.Ck
open Go Go.RowKit

section
variable {base : Nat} {M0 : Nat → Prop} {w0 w w' : World} {v : Value} {f g : Nat → Nat} {bx : List Bx} {K : World → (Nat → Prop) → Prop} {rv : Value}
/-- A call of the document's, in a law. -/
theorem Law.ref {h : FuncId} {args : Array Value} {R : Ending → World → Prop} (L : Law base M0 w0 w v f bx fun w X => RefF rv g w X ∧ K w X) (hc : ∀ X, RefF rv g w X → Calls Try.prog h args w fun e w' => R e w' ∧ Grow w w') :
    Calls Try.prog h args w fun e w' => R e w' ∧ Law base M0 w0 w' v f bx fun w X => RefF rv g w X ∧ K w X := by
  obtain ⟨X, hX⟩ := L.know
  exact L.read (hc X hX.1)
end

theorem holder_anyIs {w : World} {v : Value} {f : Nat → Nat} (h : TxAny w v f) {a : Int} {b : Bool} (hh : Hid (hold f = (a, b))) :
    Calls Try.prog 75 #[v] w fun e w' => e = .returned (.tuple #[.int .i64 a, .bool b]) ∧ Grow w w' := by
  have := holder_any h
  rwa [hh.out] at this
theorem rholderIs {rv : Value} {f : Nat → Nat} {w : World} {X : Nat → Prop} (h : RefF rv f w X) {a : Int} {b : Bool} (hh : Hid (hold f = (a, b))) :
    Calls Try.prog 76 #[rv] w fun e w' => e = .returned (.tuple #[.int .i64 a, .bool b]) ∧ Grow w w' := by
  have := rholder h
  rwa [hh.out] at this
theorem rmayIs {rv : Value} {f : Nat → Nat} {w : World} {X : Nat → Prop} (h : RefF rv f w X) (c : Int) {b : Bool} (hh : Hid (mayB f c = b)) :
    Calls Try.prog 80 #[rv, .int .i64 c] w fun e w' => e = .returned (.bool b) ∧ Grow w w' := by
  have := rmay h c
  rwa [hh.out] at this

set_option maxRecDepth 100000 in
set_option maxHeartbeats 4000000 in
theorem lockTells {w : World} {A : Option Addr} {n : Nat} {l : List (Nat × Nat)} (c : Int) (hl : Puts (fun b => b < w.heap.size) w A l) (hm : l.length ≤ 9223372036854775807)
    (hx : ∀ p ∈ l, p.1 < 18446744073709551616 ∧ p.2 < 18446744073709551616) :
    Calls Try.prog 14 #[.slice A l.length n, .int .i64 c] w fun e w' => e = .returned (.bool true) ∧ Grow w w' := by
  obtain ⟨a, b, k, ht1, ht2⟩ := takes c
  go_enter Try.func14, Try.ntmps14
  go_wp2_with fail
  refine (awake18 w).mono ?_
  rintro e w1 ⟨rfl, hg⟩
  go_wp2_with fail
  refine (formed_law hg hl fun hl1 => formed74 (c := n) 4480 (by unfold fits; omega) hl1 hm hx).mono ?_
  rintro e w2 ⟨base, p, A', n1, c', B', n2, d', rfl, L2⟩
  clear hl hx hg
  generalize fillF 4480 (l.take 60) = f at L2
  obtain ⟨⟨h1, h2⟩, hH⟩ : ∃ H, hold f = H := ⟨_, rfl⟩
  have HH := Lib.hid hH
  clear hH
  obtain ⟨mb, hmb⟩ : ∃ b, mayB f c = b := ⟨_, rfl⟩
  have HB := Lib.hid hmb
  clear hmb
  have L3 := L2.alloc #[.slice A' n1 c', .slice B' n2 d'] 67
  clear L2
  go_wp2_with fail
  generalize w2.alloc (Obj.cells #[.slice A' n1 c', .slice B' n2 d'] 67) = w3 at L3 ⊢
  go_wp2_with fail
  refine (L3.read (holder_anyIs L3.any HH)).mono ?_
  rintro e w4 ⟨rfl, L4⟩
  clear L3
  have a0 := L4.cell (List.mem_cons_self ..) 0
  have a1 := L4.cell (List.mem_cons_self ..) 1
  go_wp2_with fail
  refine (L4.ref (fun X hX => rholderIs hX HH)).mono ?_
  rintro e w5 ⟨rfl, L5⟩
  clear L4
  clear a0 a1
  go_wp2_with fail
  refine (L5.read (ht1 _)).mono ?_
  rintro e w6 ⟨rfl, L6⟩
  clear L5
  have L7 := L6.alloc #[.int .u64 a, .int .u64 b] 73
  clear L6
  go_wp2_with fail
  generalize w6.alloc (Obj.cells #[.int .u64 a, .int .u64 b] 73) = w7 at L7 ⊢
  go_wp2_with fail
  refine (L7.read (ht2 _)).mono ?_
  rintro e w8 ⟨rfl, L8⟩
  clear L7
  have L9 := L8.alloc #[.int .u64 a, .int .u64 b] 73
  clear L8
  go_wp2_with fail
  generalize w8.alloc (Obj.cells #[.int .u64 a, .int .u64 b] 73) = w9 at L9 ⊢
  have t2 : (a == a) = true := by simp
  have t3 : (b == b) = true := by simp
  have t4 : (k == k) = true := by simp
  have t5 : (h1 == h1) = true := by simp
  have t6 : (h2 == h2) = true := by simp
  have t7 : (mb == mb) = true := by simp
  have LL := L9
  clear L9
  have m0 : ∀ {x y z : Bx}, x ∈ [x, y, z] := List.mem_cons_self ..
  have m1 : ∀ {x y z : Bx}, y ∈ [x, y, z] := List.mem_cons_of_mem _ (List.mem_cons_self ..)
  have m2 : ∀ {x y z : Bx}, z ∈ [x, y, z] := List.mem_cons_of_mem _ (List.mem_cons_of_mem _ (List.mem_cons_self ..))
  go_region_held3 (fun w' => w'.cell? ⟨w8.heap.size, 0, none⟩ = some (.int .u64 a) ∧ w'.cell? ⟨w8.heap.size, 1, none⟩ = some (.int .u64 b) ∧ w'.cell? ⟨w6.heap.size, 0, none⟩ = some (.int .u64 a) ∧ w'.cell? ⟨w6.heap.size, 1, none⟩ = some (.int .u64 b) ∧
      w'.cell? ⟨w2.heap.size, 0, none⟩ = some (.slice A' n1 c') ∧ w'.cell? ⟨w2.heap.size, 1, none⟩ = some (.slice B' n2 d') ∧
      Law base (fun _ => False) w w' (.pointer p) f [(w8.heap.size, #[.int .u64 a, .int .u64 b], 73), (w6.heap.size, #[.int .u64 a, .int .u64 b], 73), (w2.heap.size, #[.slice A' n1 c', .slice B' n2 d'], 67)] (fun w X => RefF (.agg #[.slice A' n1 c', .slice B' n2 d']) f w X ∧ ArgP A l w X))
    (first | exact ⟨LL.cell m0 0, LL.cell m0 1, LL.cell m1 0, LL.cell m1 1, LL.cell m2 0, LL.cell m2 1, LL⟩ | exact ⟨LL.drew.cell m0 0, LL.drew.cell m0 1, LL.drew.cell m1 0, LL.drew.cell m1 1, LL.drew.cell m2 0, LL.drew.cell m2 1, LL.drew⟩)
    (first | (go_at_call 79; go_split_ands; refine Calls.mono (Law.mayIs (by assumption) c HB.out) ?_; rintro e wn ⟨rfl, LL⟩) | (go_at_call 80; go_split_ands; refine Calls.mono (Law.ref (by assumption) (fun X hX => rmayIs hX c HB)) ?_; rintro e wn ⟨rfl, LL⟩))
  have hg := LL.done
  clear ht1 ht2 m0 m1 m2 t2 t3 t4 t5 t6 t7
  go_wp2
  go_ret
  exact ⟨rfl, hg⟩
end Go.Proofs.Ck
