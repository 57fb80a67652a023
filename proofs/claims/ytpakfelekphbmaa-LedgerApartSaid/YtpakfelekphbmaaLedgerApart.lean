/- LedgerApart: the walk. -/
import Derived.Test.YtpakfelekphbmaaLedgerEnds
import Derived.Test.YtpakfelekphbmaaGSeg
namespace Go.Proofs.Ck
open Go Go.RowKit

theorem info133 : (Try.prog.info? 133).map (fun i => (i.zero, i.size, i.bytes)) = some (some (.agg #[.int .u8 0, .int .u8 0]), 2, 2) := by kernel_rfl
theorem only_heap {w w' : World} {v : Value} {q : Nat} {o : Obj} (h : w.heap[q]? = some o) (hy : Only (fun b => v.ownBlock = some b) w w') : v.ownBlock ≠ some q → w'.heap[q]? = some o := fun hn => hy.heap h hn
/-- The tags, summed up. -/
def sumT (g : Nat → Nat) (all : List Nat) : Nat → Nat
  | 0 => 0
  | k + 1 => (sumT g all k + g (all.getD k 0) * (k + 1) % 18446744073709551616) % 18446744073709551616
theorem sumT_lt (g : Nat → Nat) (all : List Nat) (k : Nat) : sumT g all k < 18446744073709551616 := by
  cases k with
  | zero => exact (by decide : 0 < 18446744073709551616)
  | succ k => exact Nat.mod_lt _ (by omega)
theorem sumT_congr {g f : Nat → Nat} {all : List Nat} (h : ∀ a ∈ all, g a = f a) : ∀ k, k ≤ all.length → sumT g all k = sumT f all k
  | 0, _ => rfl
  | k + 1, hk => by
    have hm : all.getD k 0 ∈ all := by rw [List.getD_eq_getElem?_getD, List.getElem?_eq_getElem (by omega)]; exact List.getElem_mem _
    unfold sumT
    rw [sumT_congr h k (by omega), h _ hm]
theorem wrap_mul64 {x k y : Nat} (h : x * k % 18446744073709551616 = y) : IntKind.u64.wrap ((x : Int) * (k : Int)) = (y : Int) := by
  rw [IntKind.wrap_u64, ← Int.natCast_mul, ← h]
  exact (Int.natCast_emod _ _).symm
theorem wrap_add64 {x k y : Nat} (h : (x + k) % 18446744073709551616 = y) : IntKind.u64.wrap ((x : Int) + (k : Int)) = (y : Int) := by
  rw [IntKind.wrap_u64, ← Int.natCast_add, ← h]
  exact (Int.natCast_emod _ _).symm
theorem Row.now {S : Nat → Prop} {w : World} {A : Option Addr} {n k : Nat} {xs : List Value} (h : Row S w A n k xs) : Row (fun b => b < w.heap.size) w A n k xs :=
  ⟨h.len, fun hp => by
    obtain ⟨b, off, e, -, hc⟩ := h.at_ hp
    have h0 := hc 0 _ (List.getElem?_eq_getElem hp)
    exact ⟨b, off, e, lt_of_cell h0, hc⟩⟩
theorem wp_append_row {P : Program} {S : Nat → Prop} (w : World) {o : Oper} {a : Act} {K : Act → World → Prop} {Q : Exit → Act → World → Prop} (s x : Operand) (t : TypeId)
    (ho : o.op = .call { callee := .builtin .append, args := #[s, x], argTypes := #[t, t] })
    (base : Nat) (e : TypeId) (i : TypeInfo) (z : Value) (size bytes : Nat) (ht : P.underlying t = some (.slice e)) (hi : P.info? e = some i) (hz : i.zero = some z)
    (hsize : i.size = size) (hby : i.bytes = bytes) (hzs : z.cells.size = size) (hsz : 0 < size)
    (v : Value) (n : Nat) (xs : List Value) (hs : a.eval s = v) (hown : w.ownsRow base e size v n xs)
    (A : Option Addr) (m c : Nat) (news : List Value) (hx : a.eval x = .slice A m c) (hr : Row S w A m size news) (hA : A = none → c = 0) (h1 : ∀ u ∈ news, u.oneCell' = true)
    (h63 : n + m ≤ maxLen) (hbytes : (n + m) * bytes ≤ 140737488355328) (hbase : base ≤ w.heap.size)
    (h : ∀ v' w', w'.ownsRow base e size v' (n + m) (xs ++ news) → Only (fun b => v.ownBlock = some b) w w' → K (a.put o.dst v') w') : o.wp P a w K Q := by
  obtain ⟨v', w', hrun, r1, r2⟩ := run_append_row (P := P) w base t o.type e i z size bytes ht hi hz hsize hby hzs hsz v n xs hown A m c news hr hA h1 h63 hbytes hbase
  unfold Oper.wp execOp
  simp only [ho, resolve, invoke, builtin, Sem.run_bind, Sem.run_pure, Result.andThen_ok, List.map_toArray, List.map_cons, List.map_nil, hs, hx, hrun]
  exact h v' w' r1 (only_of_grown r2)

theorem region_cut {P : Program} {c : Code} {a : Act} {w : World} {Q : Exit → Act → World → Prop} (R : Act → Act → World → Prop)
    (h1 : c.wp P (fun e a' w' => e = .normal ∧ R a a' w') a w) (h2 : ∀ a' w', R a a' w' → Q .normal a' w') : c.wp P Q a w :=
  wp_mono h1 fun _ a' w' ⟨he, h⟩ => he ▸ h2 a' w' h
theorem step_append_row {P : Program} {S : Nat → Prop} (w : World) {ops : Array Oper} {o : Oper} {a : Act} {K : Act → World → Prop} {Q : Exit → Act → World → Prop} {E : Prop} (hgd : o.guard = none) (s x : Operand) (t : TypeId)
    (ho : o.op = .call { callee := .builtin .append, args := #[s, x], argTypes := #[t, t] })
    (base : Nat) (e : TypeId) (i : TypeInfo) (z : Value) (size bytes : Nat) (ht : P.underlying t = some (.slice e)) (hi : P.info? e = some i) (hz : i.zero = some z)
    (hsize : i.size = size) (hby : i.bytes = bytes) (hzs : z.cells.size = size) (hsz : 0 < size)
    (v : Value) (n : Nat) (xs : List Value) (hs : a.eval s = v) (hown : w.ownsRow base e size v n xs)
    (A : Option Addr) (m c : Nat) (news : List Value) (hx : a.eval x = .slice A m c) (hr : Row S w A m size news) (hA : A = none → c = 0) (h1 : ∀ u ∈ news, u.oneCell' = true)
    (h63 : n + m ≤ maxLen) (hbytes : (n + m) * bytes ≤ 140737488355328) (hbase : base ≤ w.heap.size)
    (h : ∀ v' w', w'.ownsRow base e size v' (n + m) (xs ++ news) → Only (fun b => v.ownBlock = some b) w w' → K (a.put o.dst v') w') :
    if Region.wanted o (yielded ops a.tmps) = true then Oper.wp P o a w K Q else E := by
  have hw : Region.wanted o (yielded ops a.tmps) = true := by simp [Region.wanted, hgd]
  rw [if_pos hw]
  exact wp_append_row w s x t ho base e i z size bytes ht hi hz hsize hby hzs hsz v n xs hs hown A m c news hx hr hA h1 h63 hbytes hbase h

set_option maxRecDepth 100000 in
set_option maxHeartbeats 16000000 in
theorem ledgerApart (s1 s2 : Nat) (hs1 : s1 < 256) (hs2 : s2 < 256) {w : World} {D1 D2 : Option Addr} {m1 m2 : Nat} {l1 : List (Nat × Nat × Nat)} {l2 : List (Nat × Nat)} (hD1 : Row (fun b => b < w.heap.size) w D1 l1.length 3 (pcs l1)) (hcap : l1.length ≤ m1) (hl1 : l1.length ≤ 9223372036854775807)
    (hb1 : ∀ q ∈ l1, q.1 < 256 ∧ q.2.1 < 256 ∧ q.2.2 < 65536) (hD2 : Row (fun b => b < w.heap.size) w D2 l2.length 2 (stps l2)) (hD20 : D2 = none → m2 = 0) (hl2 : l2.length * 2 ≤ 140737488351232) (hb2 : ∀ q ∈ l2, q.1 < 256 ∧ q.2 < 256) :
    Calls Try.prog 34 #[.slice D1 l1.length m1, .slice D2 l2.length m2, .agg #[.int .u8 (s1 : Int), .int .u8 (s2 : Int)]] w fun e w' => e = .returned (.bool true) ∧ Grow w w' := by
  have al : Try.prog.arrayLen 122 = 8 := by kernel_rfl
  go_enter Try.func34, Try.ntmps34
  have hga : Grow w (w.alloc (.cells #[.int .u8 (s1 : Int), .int .u8 (s2 : Int)] 133)) := (Below.refl _ _).alloc (Nat.le_refl _) _
  have hb5 := World.alloc_heap_new w (.cells #[.int .u8 (s1 : Int), .int .u8 (s2 : Int)] 133)
  have hD1a := hD1.grow hga
  have hD2a := hD2.grow hga
  have hsz := World.size_alloc w (.cells #[.int .u8 (s1 : Int), .int .u8 (s2 : Int)] 133)
  go_wp2_with fail
  generalize w.alloc (.cells #[.int .u8 (s1 : Int), .int .u8 (s2 : Int)] 133) = w0 at *
  generalize w.heap.size = q5 at *
  refine (awake09 w0).mono ?_
  rintro e w1 ⟨rfl, hg⟩
  have hlaid := laid_call (w0 := w0) (K0 := fun w X => Row (fun b => ¬ X b) w D1 l1.length 3 (pcs l1) ∧ Row (fun b => ¬ X b) w D2 l2.length 2 (stps l2) ∧ Lies q5 #[.int .u8 (s1 : Int), .int .u8 (s2 : Int)] 133 w X) hg ((hD1a.grow hg).mono fun b hb hh => by have := hg.size; omega) hcap hl1 hb1 (stable_row.and (stable_row.and stable_lies))
    ⟨(hD1a.grow hg).mono fun b hb hh hx => by have := hg.size; omega, (hD2a.grow hg).mono fun b hb hh hx => by have := hg.size; omega, Lies.fresh (hg.heap hb5)⟩
  obtain ⟨hled, hne, -, h21⟩ := laid_led l1
  unfold LaidP at hlaid
  obtain ⟨f, hf⟩ : ∃ f, (laidS l1).load = f := ⟨_, rfl⟩
  obtain ⟨all, hall⟩ : ∃ f, atsL l1 = f := ⟨_, rfl⟩
  rw [hf, hall] at hlaid hled
  rw [hall] at hne h21
  have HFA := Lib.hid (⟨hf, hall, hb1, hl1, hcap⟩ : _ ∧ _ ∧ _ ∧ _ ∧ _)
  clear hD1 hD2 hD1a hD2a hb1 hg hf hall hb5 hsz hl1 hcap
  go_wp2_with fail
  refine hlaid.mono ?_
  rintro e w2 ⟨base, p, A, cA, rfl, L2⟩
  clear hlaid
  have hpl := played_L (cA := cA) (m := m2) L2 (stable_row.and (stable_row.and stable_lies)) rfl hne h21 hled (fun w X h => h.2.1) hb2 (by omega)
  have hFt := (hled.lists.steps hled.room hne (l2.take 40)).2
  obtain ⟨F, hF⟩ : ∃ F, stepsF all f (fun _ => []) (l2.take 40) = F := ⟨_, rfl⟩
  obtain ⟨Ls, hLs⟩ : ∃ F, stepsL all (fun _ => []) (l2.take 40) = F := ⟨_, rfl⟩
  have hledk := hled.steps hne (l2.take 40)
  rw [hF] at hpl hFt hledk
  rw [hLs] at hpl hledk
  have HLS := Lib.hid (⟨hLs, hled, hFt, hledk, hb2⟩ : _ ∧ _ ∧ _ ∧ _ ∧ _)
  clear L2 hb2 hled hF hLs hFt hledk
  go_wp2_with fail
  refine hpl.mono ?_
  clear hpl
  rintro e w3 ⟨cs, rfl, hcs, L3⟩
  have hone : cs.all (·.oneCell') = true := by
    obtain ⟨X, hX, -⟩ := L3.know
    rw [Array.all_eq_true]
    intro i hi
    obtain ⟨v, hv, A, c, rfl, -⟩ := hX i (by omega)
    rw [Array.getElem?_eq_getElem hi, Option.some.injEq] at hv
    rw [hv]
    rfl
  have L4 := L3.alloc #[.slice none 0 0, .slice none 0 0, .slice none 0 0, .slice none 0 0, .slice none 0 0, .slice none 0 0, .slice none 0 0, .slice none 0 0] 122
  have hbx := L4.box (List.mem_cons_self ..)
  have L5 := L4.setRow cs
  clear L3 L4
  go_wp2_with (refine wpList_store_row rfl 122 (.tmp 10) (.tmp 33) rfl w3.heap.size cs rfl rfl 122 _ hbx (info122.trans (by rw [hcs])) (by rw [hcs]; rfl) hone ?_)
  clear hbx hone
  generalize (w3.alloc (Obj.cells #[.slice none 0 0, .slice none 0 0, .slice none 0 0, .slice none 0 0, .slice none 0 0, .slice none 0 0, .slice none 0 0, .slice none 0 0] 122)).setRow w3.heap.size cs = w5 at L5 ⊢
  generalize w3.heap.size = q8 at L5 ⊢
  obtain ⟨n, hn⟩ : ∃ n, all.length = n := ⟨_, rfl⟩
  rw [hn] at L5 h21
  simp only [hn]
  go_loopw [12, 13] (fun t12 t13 wr => ∃ k : Nat, k ≤ n ∧ t12 = .int .u64 ((sumT F all k : Nat) : Int) ∧ t13 = .int .i64 (k : Int) ∧ Law base (fun _ => False) w0 wr (.pointer p) F [(q8, cs, 122)] (fun w X => Slots cs Ls w X ∧ Row (fun b => ¬ X b) w A n 1 (u64s all) ∧ Row (fun b => ¬ X b) w D1 l1.length 3 (pcs l1) ∧ Row (fun b => ¬ X b) w D2 l2.length 2 (stps l2) ∧ Lies q5 #[.int .u8 (s1 : Int), .int .u8 (s2 : Int)] 133 w X)) (fun _ t13 _ => n - (intOf t13).toNat)
  case atStart => exact ⟨0, Nat.zero_le _, rfl, rfl, L5⟩
  case round =>
    clear L5
    obtain ⟨k, hk, rfl, rfl, L6⟩ := hrel
    by_cases hlt : k < n
    · have g0 : decide ((k : Int) < n) = true := decide_eq_true (by omega)
      have gi0 : (0 : Int) ≤ k := by omega
      have gi1 : (k : Int) < n := by omega
      obtain ⟨X, hX⟩ := L6.know
      obtain ⟨bA, oA, rfl, -, hcA⟩ := hX.2.1.pos (by omega) (by omega)
      have xA := hcA k _ (u64s_get (by omega))
      have hnx : sumT F all (k + 1) = (sumT F all k + F (all.getD k 0) * (k + 1) % 18446744073709551616) % 18446744073709551616 := rfl
      have hslt := sumT_lt F all k
      clear hX X hcA
      have hom : all.getD k 0 ∈ all := by rw [List.getD_eq_getElem?_getD, List.getElem?_eq_getElem (by omega)]; exact List.getElem_mem _
      have holt := (HLS.out.2.1.room.at_ _ hom).2.2
      generalize all.getD k 0 = o at *
      have HL := L6.load o (by omega)
      generalize F o = x at *
      generalize sumT F all k = sm at *
      obtain ⟨k1, hk1⟩ : ∃ k1, k + 1 = k1 := ⟨_, rfl⟩
      rw [hk1] at hnx
      obtain ⟨y, hy⟩ : ∃ y, x * k1 % 18446744073709551616 = y := ⟨_, rfl⟩
      rw [hy] at hnx
      have n1 : IntKind.i64.wrap ((k : Int) + 1) = (k1 : Int) := by rw [IntKind.wrap_i64]; omega
      have n2 : IntKind.u64.wrap (k1 : Int) = (k1 : Int) := by rw [IntKind.wrap_u64]; omega
      have n3 := wrap_mul64 hy
      have n4 := wrap_add64 (x := sm) (k := y) rfl
      rw [← hnx] at n4
      obtain ⟨sm1, hsm1⟩ : ∃ s, sumT F all k1 = s := ⟨_, rfl⟩
      rw [hsm1] at n4
      have HNX := Lib.hid (⟨hsm1, hk1⟩ : _ ∧ _)
      clear hnx hk1 hy hom hsm1
      go_wp2_with fail
      refine HL.mono ?_
      rintro e w7 ⟨rfl, L7⟩
      clear HL L6 xA
      go_wp2
      go_roundw
      case rel => exact ⟨k1, by have := HNX.out.2; omega, by rw [HNX.out.1], rfl, L7⟩
      case measure => have := HNX.out.2; simp [intOf]; omega
    · obtain rfl : k = n := by omega
      have g0 : decide ((k : Int) < k) = false := decide_eq_false (by omega)
      -- REGION9
      go_wp2_with fail
      have hkp : ∀ {w' : World}, Grow wr w' → (w'.cell? ⟨q5, 0, none⟩ = some (.int .u8 (s1 : Int)) ∧ w'.cell? ⟨q5, 1, none⟩ = some (.int .u8 (s2 : Int))) ∧ Row (fun _ => True) w' D2 l2.length 2 (stps l2) := fun hg => by
        obtain ⟨X, hX⟩ := (L6.grow hg).know
        exact ⟨⟨hX.2.2.2.2.cell 0, hX.2.2.2.2.cell 1⟩, hX.2.2.2.1.mono fun _ _ _ => trivial⟩
      have hone2 : ∀ u ∈ stps l2, u.oneCell' = true := fun u hu => by
        unfold stps at hu
        rw [List.mem_flatMap] at hu
        obtain ⟨q, -, hq⟩ := hu
        simp only [List.mem_cons, List.not_mem_nil, or_false] at hq
        rcases hq with rfl | rfl <;> rfl
      obtain ⟨i133, hi3, hz3, hs3, hb3⟩ := info_parts info133
      clear g0
      refine region_cut (fun a a' w' => ∃ (v53 v54 v55 v56 v57 v58 : Value) (Z : Option Addr) (cz : Nat), a' = ((((((a.put (some 53) v53).put (some 54) v54).put (some 55) v55).put (some 56) v56).put (some 57) v57).put (some 58) v58).put (some 14) (.slice Z (l2.length + 1) cz) ∧ Grow wr w' ∧ Row (fun b => wr.heap.size ≤ b) w' Z (l2.length + 1) 2 (stps l2 ++ [.int .u8 (s1 : Int), .int .u8 (s2 : Int)])) ?_ ?_
      rotate_left
      · rintro a9 wx4 ⟨v53, v54, v55, v56, v57, v58, Z, cz, rfl, hG4, hrz⟩
        simp only [Act.put, List.setIfInBounds_toArray, List.set_cons_zero, List.set_cons_succ]
        have L9 := L6.grow hG4
        clear L6 hkp hone2 hi3 hz3 hs3 hb3 i133
        obtain ⟨ls, hls⟩ : ∃ x, l2 ++ [(s1, s2)] = x := ⟨_, rfl⟩
        have hlen : l2.length + 1 = ls.length := by rw [← hls]; simp
        have hrn : Row (fun b => b < wx4.heap.size) wx4 Z ls.length 2 (stps ls) := by
          have := hrz.now
          rw [hlen] at this
          rw [← hls]
          have e : stps (l2 ++ [(s1, s2)]) = stps l2 ++ [.int .u8 (s1 : Int), .int .u8 (s2 : Int)] := by unfold stps; rw [List.flatMap_append]; rfl
          rw [e, hls]
          exact this
        rw [hlen]
        clear hrz
        by_cases h40 : 40 < ls.length
        · have g40 : decide ((40 : Int) < (ls.length : Int)) = true := decide_eq_true (by omega)
          have g40n : decide (40 < ls.length) = true := decide_eq_true h40
          have hg9 := L9.done
          clear L9
          go_wp2
          go_ret
          exact ⟨rfl, hga.trans hg9⟩
        · have g40 : decide ((40 : Int) < (ls.length : Int)) = false := decide_eq_false (by omega)
          have g40n : decide (40 < ls.length) = false := decide_eq_false h40
          obtain ⟨X, hX⟩ := L9.know
          have hbx := L9.box (List.mem_cons_self ..)
          have hq5 := hX.2.2.2.2.1
          have hD1 := hX.2.2.1.now
          have hsl := hX.1
          have hg9 := L9.done
          clear L9
          have hlaid := laid_call (w0 := wx4) (cD := m1) (K0 := fun w X => Row (fun b => ¬ X b) w Z ls.length 2 (stps ls) ∧ Slots cs Ls w X ∧ Lies q8 cs 122 w X ∧ Lies q5 #[.int .u8 (s1 : Int), .int .u8 (s2 : Int)] 133 w X) (Below.refl _ _) hD1 HFA.out.2.2.2.2 HFA.out.2.2.2.1 HFA.out.2.2.1 (stable_row.and (stable_slots.and (stable_lies.and stable_lies)))
            ⟨hrn.mono fun b hb hh => by omega, fun d hd => by
              obtain ⟨v', hv', A', c', e', hA', hr'⟩ := hsl d hd
              exact ⟨v', hv', A', c', e', hA', hr'.now.mono fun b hb hh => by omega⟩, Lies.fresh hbx, Lies.fresh hq5⟩
          unfold LaidP at hlaid
          rw [HFA.out.1, HFA.out.2.1, hn] at hlaid
          clear hX X hrn hD1 hsl hbx hq5
          go_wp2_with fail
          refine hlaid.mono ?_
          clear hlaid
          rintro e wy ⟨base2, p2, A2, c2, rfl, M2⟩
          have hbs : ∀ q ∈ ls, q.1 < 256 ∧ q.2 < 256 := fun q hq => by
            rw [← hls] at hq
            rcases List.mem_append.1 hq with hq | hq
            · exact HLS.out.2.2.2.2 q hq
            · rw [List.mem_singleton] at hq; subst hq; exact ⟨hs1, hs2⟩
          have hpl := played_L (cA := c2) (m := cz) M2 (stable_row.and (stable_slots.and (stable_lies.and stable_lies))) hn hne h21 HLS.out.2.1 (fun w X h => h.1) hbs (by omega)
          have hFt := (HLS.out.2.1.lists.steps HLS.out.2.1.room hne (ls.take 40)).2
          have hled2 := HLS.out.2.1.steps hne (ls.take 40)
          obtain ⟨s8, hs8⟩ : ∃ c, s1 % 8 = c := ⟨_, rfl⟩
          have hsame : ∀ c, c ≠ s8 → stepsL all (fun _ => []) (ls.take 40) c = Ls c := fun c hc => by
            rw [List.take_of_length_le (by omega), ← hls, stepsL_snoc]
            have e1 : stepsL all (fun _ => []) l2 = Ls := by rw [← HLS.out.1, List.take_of_length_le (by omega)]
            rw [e1]
            unfold stepL
            split
            · unfold setL; rw [if_neg (by rw [hs8]; exact hc)]
            · split
              · unfold setL; rw [if_neg (by rw [hs8]; exact hc)]
              · rfl
          obtain ⟨F2, hF2⟩ : ∃ F, stepsF all f (fun _ => []) (ls.take 40) = F := ⟨_, rfl⟩
          obtain ⟨Ls2, hLs2⟩ : ∃ F, stepsL all (fun _ => []) (ls.take 40) = F := ⟨_, rfl⟩
          rw [hF2] at hpl hFt hled2
          rw [hLs2] at hpl hled2 hsame
          have HEQ := Lib.hid (⟨hFt, hled2, hsame⟩ : _ ∧ _ ∧ _)
          have hsum : sumT F2 all k = sumT F all k := sumT_congr (fun a ha => by rw [hFt a ha, HLS.out.2.2.1 a ha]) k (by omega)
          have HSUM := Lib.hid hsum
          clear M2 hbs hFt hled2 hF2 hLs2 hsame hsum g40 g40n h40
          go_wp2_with fail
          refine hpl.mono ?_
          clear hpl
          rintro e wz ⟨cs2, rfl, hcs2, M3⟩
          have hone : cs2.all (·.oneCell') = true := by
            obtain ⟨X, hX, -⟩ := M3.know
            rw [Array.all_eq_true]
            intro i hi
            obtain ⟨v, hv, A, c, rfl, -⟩ := hX i (by omega)
            rw [Array.getElem?_eq_getElem hi, Option.some.injEq] at hv
            rw [hv]
            rfl
          have M4 := M3.alloc #[.slice none 0 0, .slice none 0 0, .slice none 0 0, .slice none 0 0, .slice none 0 0, .slice none 0 0, .slice none 0 0, .slice none 0 0] 122
          have hbx := M4.box (List.mem_cons_self ..)
          have M5 := M4.setRow cs2
          clear M3 M4
          go_wp2_with (refine wpList_store_row rfl 122 (.tmp 17) (.tmp 73) rfl wz.heap.size cs2 rfl rfl 122 _ hbx (info122.trans (by rw [hcs2])) (by rw [hcs2]; rfl) hone ?_)
          clear hbx hone
          generalize (wz.alloc (Obj.cells #[.slice none 0 0, .slice none 0 0, .slice none 0 0, .slice none 0 0, .slice none 0 0, .slice none 0 0, .slice none 0 0, .slice none 0 0] 122)).setRow wz.heap.size cs2 = wq at M5 ⊢
          generalize wz.heap.size = q17 at M5 ⊢
          replace M5 := M5.less (L := fun w X => Slots cs2 Ls2 w X ∧ Row (fun b => ¬ X b) w A2 k 1 (u64s all) ∧ Slots cs Ls w X ∧ Lies q8 cs 122 w X ∧ Lies q5 #[.int .u8 (s1 : Int), .int .u8 (s2 : Int)] 133 w X) (stable_slots.and (stable_row.and (stable_slots.and (stable_lies.and stable_lies)))) (fun w X h => ⟨h.1, h.2.1, h.2.2.2⟩)
          obtain ⟨n, hkn⟩ : ∃ n, k = n := ⟨_, rfl⟩
          rw [hkn] at M5 h21 hn HSUM
          simp only [hkn]
          go_loopw [19, 20] (fun t12 t13 wr => ∃ k : Nat, k ≤ n ∧ t12 = .int .u64 ((sumT F2 all k : Nat) : Int) ∧ t13 = .int .i64 (k : Int) ∧ Law base2 (fun _ => False) wx4 wr (.pointer p2) F2 [(q17, cs2, 122)] (fun w X => Slots cs2 Ls2 w X ∧ Row (fun b => ¬ X b) w A2 n 1 (u64s all) ∧ Slots cs Ls w X ∧ Lies q8 cs 122 w X ∧ Lies q5 #[.int .u8 (s1 : Int), .int .u8 (s2 : Int)] 133 w X)) (fun _ t13 _ => n - (intOf t13).toNat)
          case atStart => exact ⟨0, Nat.zero_le _, rfl, rfl, M5⟩
          case round =>
            clear M5 hkn
            obtain ⟨j, hj, rfl, rfl, M6⟩ := hrel
            by_cases hjt : j < n
            · have g0 : decide ((j : Int) < n) = true := decide_eq_true (by omega)
              have gi0 : (0 : Int) ≤ j := by omega
              have gi1 : (j : Int) < n := by omega
              obtain ⟨X, hX⟩ := M6.know
              obtain ⟨bA, oA, rfl, -, hcA⟩ := hX.2.1.pos (by omega) (by omega)
              have xA := hcA j _ (u64s_get (by omega))
              have hnx : sumT F2 all (j + 1) = (sumT F2 all j + F2 (all.getD j 0) * (j + 1) % 18446744073709551616) % 18446744073709551616 := rfl
              have hslt := sumT_lt F2 all j
              clear hX X hcA
              have hom : all.getD j 0 ∈ all := by rw [List.getD_eq_getElem?_getD, List.getElem?_eq_getElem (by omega)]; exact List.getElem_mem _
              have holt := (HLS.out.2.1.room.at_ _ hom).2.2
              generalize all.getD j 0 = o at *
              have HL := M6.load o (by omega)
              generalize F2 o = x at *
              generalize sumT F2 all j = sm at *
              obtain ⟨k1, hk1⟩ : ∃ k1, j + 1 = k1 := ⟨_, rfl⟩
              rw [hk1] at hnx
              obtain ⟨y, hy⟩ : ∃ y, x * k1 % 18446744073709551616 = y := ⟨_, rfl⟩
              rw [hy] at hnx
              have n1 : IntKind.i64.wrap ((j : Int) + 1) = (k1 : Int) := by rw [IntKind.wrap_i64]; omega
              have n2 : IntKind.u64.wrap (k1 : Int) = (k1 : Int) := by rw [IntKind.wrap_u64]; omega
              have n3 := wrap_mul64 hy
              have n4 := wrap_add64 (x := sm) (k := y) rfl
              rw [← hnx] at n4
              obtain ⟨sm1, hsm1⟩ : ∃ s, sumT F2 all k1 = s := ⟨_, rfl⟩
              rw [hsm1] at n4
              have HNX := Lib.hid (⟨hsm1, hk1⟩ : _ ∧ _)
              clear hnx hk1 hy hom hsm1
              go_wp2_with fail
              refine HL.mono ?_
              rintro e w7 ⟨rfl, M7⟩
              clear HL M6 xA
              go_wp2
              go_roundw
              case rel => exact ⟨k1, by have := HNX.out.2; omega, by rw [HNX.out.1], rfl, M7⟩
              case measure => have := HNX.out.2; simp [intOf]; omega
            · obtain rfl : j = n := by omega
              have g0 : decide ((j : Int) < j) = false := decide_eq_false (by omega)
              have hsum := HSUM.out
              have hs88 : s8 < 8 := by omega
              have m1' : IntKind.u8.wrap ((s1 : Int) % 8) = (s8 : Int) := by rw [IntKind.wrap_u8]; omega
              have m2' : (s1 : Int) % 8 = (s8 : Int) := by omega
              have m3' : (s1 : Int).tmod 8 = (s8 : Int) := by rw [Int.tmod_eq_emod_of_nonneg (by omega)]; omega
              have m4' : IntKind.u8.wrap (s8 : Int) = (s8 : Int) := by rw [IntKind.wrap_u8]; omega
              have m5' : IntKind.i64.wrap (s8 : Int) = (s8 : Int) := by rw [IntKind.wrap_i64]; omega
              rw [hsum]
              clear hsum HSUM hs8
              generalize sumT F all j = sm at *
              have zz : ((sm : Int) == sm) = true := by simp
              replace M6 := M6.less (L := fun w X => Slots cs2 Ls2 w X ∧ Slots cs Ls w X ∧ Lies q8 cs 122 w X ∧ Lies q5 #[.int .u8 (s1 : Int), .int .u8 (s2 : Int)] 133 w X) (stable_slots.and (stable_slots.and (stable_lies.and stable_lies))) (fun w X h => ⟨h.1, h.2.2⟩)
              go_wp2_with fail
              clear g0
              go_loopw [21] (fun t21 wr => ∃ d : Nat, d ≤ 8 ∧ t21 = .int .i64 (d : Int) ∧ Law base2 (fun _ => False) wx4 wr (.pointer p2) F2 [(q17, cs2, 122)] (fun w X => Slots cs2 Ls2 w X ∧ Slots cs Ls w X ∧ Lies q8 cs 122 w X ∧ Lies q5 #[.int .u8 (s1 : Int), .int .u8 (s2 : Int)] 133 w X)) (fun t21 _ => 8 - (intOf t21).toNat)
              case atStart => exact ⟨0, Nat.zero_le _, rfl, M6⟩
              case round =>
                clear M6
                obtain ⟨d, hd, rfl, M7⟩ := hrel
                by_cases hd8 : d < 8
                · have g0 : decide ((d : Int) < 8) = true := decide_eq_true (by omega)
                  have gd : (0 : Int) ≤ (d : Int) ∧ (d : Int) < 8 := by omega
                  have g5 : (0 : Int) ≤ 0 ∧ (0 : Int) < 2 := by omega
                  obtain ⟨X, hX⟩ := M7.know
                  obtain ⟨v2, hv2, B2, e2, rfl, -, hr2⟩ := hX.1 d hd8
                  obtain ⟨v1, hv1, B1, e1, rfl, -, hr1⟩ := hX.2.1 d hd8
                  have hkp : ∀ {w' : World}, Law base2 (fun _ => False) wx4 w' (.pointer p2) F2 [(q17, cs2, 122)] (fun w X => Slots cs2 Ls2 w X ∧ Slots cs Ls w X ∧ Lies q8 cs 122 w X ∧ Lies q5 #[.int .u8 (s1 : Int), .int .u8 (s2 : Int)] 133 w X) →
                      w'.cell? ⟨q5, 0, none⟩ = some (.int .u8 (s1 : Int)) ∧ w'.cell? ⟨q8, d, none⟩ = some (.slice B1 (Ls d).length e1) ∧ w'.cell? ⟨q17, d, none⟩ = some (.slice B2 (Ls2 d).length e2) := fun {w'} L => by
                    obtain ⟨X, hX⟩ := L.know
                    have a2 := L.cell (List.mem_cons_self ..) d
                    have a1 := hX.2.2.1.cell d
                    have a0 := hX.2.2.2.cell 0
                    rw [hv2] at a2
                    rw [hv1] at a1
                    exact ⟨a0, a1, a2⟩
                  have hled2 := HEQ.out.2.1
                  have hmem : ∀ a ∈ Ls2 d, a < 18446744073709551616 := fun a ha => by have := hled2.mem hd8 ha; omega
                  have hfew := hled2.few hd8
                  have htold := hled2.lists.told hled2.room hd8
                  have hck : ∀ {w' : World}, Law base2 (fun _ => False) wx4 w' (.pointer p2) F2 [(q17, cs2, 122)] (fun w X => Slots cs2 Ls2 w X ∧ Slots cs Ls w X ∧ Lies q8 cs 122 w X ∧ Lies q5 #[.int .u8 (s1 : Int), .int .u8 (s2 : Int)] 133 w X) →
                      Calls Try.prog 109 #[.pointer p2, .int .i64 (d : Int), .slice B2 (Ls2 d).length e2] w' fun e w2 => e = .returned (.bool true) ∧ Law base2 (fun _ => False) wx4 w2 (.pointer p2) F2 [(q17, cs2, 122)] (fun w X => Slots cs2 Ls2 w X ∧ Slots cs Ls w X ∧ Lies q8 cs 122 w X ∧ Lies q5 #[.int .u8 (s1 : Int), .int .u8 (s2 : Int)] 133 w X) := fun {w'} L => by
                    obtain ⟨X, hX⟩ := L.know
                    obtain ⟨v', hv', A', c', e', -, hr⟩ := hX.1 d hd8
                    rw [hv2] at hv'
                    cases hv'
                    cases e'
                    have HC := L.checkL (d : Int) (cA := e2) hr rfl hmem (by omega)
                    rw [htold] at HC
                    exact HC
                  have M8 := M7.drew
                  by_cases hds : d = s8
                  · subst hds
                    have nds : ((d : Int) != (d : Int)) = false := by simp
                    clear hr1 hr2 hX X hfew hmem htold hled2 M7
                    have HC := hck M8
                    go_wp2_with fail
                    refine region_plain (fun w' => w'.cell? ⟨q5, 0, none⟩ = some (.int .u8 (s1 : Int)) ∧ w'.cell? ⟨q8, d, none⟩ = some (.slice B1 (Ls d).length e1) ∧ w'.cell? ⟨q17, d, none⟩ = some (.slice B2 (Ls2 d).length e2)) (by kernel_rfl) (hkp M8) (fun hHeld => ?_)
                    refine wpAnyH_take (i := 0) (v := ?_) rfl (by kernel_rfl) (by kernel_rfl) (by kernel_rfl) (fun _ _ _ h => h) (Or.inl ⟨by first | kernel_rfl | rfl, ?_⟩) (by assumption) ?_
                    rotate_left
                    · intro w hSw; (try dsimp only at hSw); (try go_split_ands); go_simp; first | done | with_reducible rfl
                    try simp only [Act.put, List.getElem_toArray, List.getElem_cons_zero, List.setIfInBounds_toArray, List.set_cons_zero, List.set_cons_succ]
                    refine wpAnyH_take (i := 1) (v := ?_) rfl (by kernel_rfl) (by kernel_rfl) (by kernel_rfl) (fun _ _ _ h => h) (Or.inl ⟨by first | kernel_rfl | rfl, ?_⟩) (by assumption) ?_
                    rotate_left
                    · intro w hSw; (try dsimp only at hSw); (try go_split_ands); go_simp; first | done | with_reducible rfl
                    try simp only [Act.put, List.getElem_toArray, List.getElem_cons_succ, List.getElem_cons_zero, List.setIfInBounds_toArray, List.set_cons_zero, List.set_cons_succ]
                    refine wpAnyH_take (i := 2) (v := ?_) rfl (by kernel_rfl) (by kernel_rfl) (by kernel_rfl) (fun _ _ _ h => h) (Or.inl ⟨by first | kernel_rfl | rfl, ?_⟩) (by assumption) ?_
                    rotate_left
                    · intro w hSw; (try dsimp only at hSw); (try go_split_ands); go_simp; first | done | with_reducible rfl
                    try simp only [Act.put, List.getElem_toArray, List.getElem_cons_succ, List.getElem_cons_zero, List.setIfInBounds_toArray, List.set_cons_zero, List.set_cons_succ]
                    refine wpAnyH_take (i := 3) (v := ?_) rfl (by kernel_rfl) (by kernel_rfl) (by kernel_rfl) (fun _ _ _ h => h) (Or.inl ⟨by first | kernel_rfl | rfl, ?_⟩) (by assumption) ?_
                    rotate_left
                    · intro w hSw; (try dsimp only at hSw); (try go_split_ands); go_simp; first | done | with_reducible rfl
                    try simp only [Act.put, List.getElem_toArray, List.getElem_cons_succ, List.getElem_cons_zero, List.setIfInBounds_toArray, List.set_cons_zero, List.set_cons_succ]
                    refine wpAnyH_take (i := 4) (v := ?_) rfl (by kernel_rfl) (by kernel_rfl) (by kernel_rfl) (fun _ _ _ h => h) (Or.inl ⟨by first | kernel_rfl | rfl, ?_⟩) (by assumption) ?_
                    rotate_left
                    · intro w hSw; (try dsimp only at hSw); (try go_split_ands); go_simp; first | done | with_reducible rfl
                    try simp only [Act.put, List.getElem_toArray, List.getElem_cons_succ, List.getElem_cons_zero, List.setIfInBounds_toArray, List.set_cons_zero, List.set_cons_succ]
                    refine wpAnyH_take (i := 5) (v := ?_) rfl (by kernel_rfl) (by kernel_rfl) (by kernel_rfl) (fun _ _ _ h => h) (Or.inl ⟨by first | kernel_rfl | rfl, ?_⟩) (by assumption) ?_
                    rotate_left
                    · intro w hSw; (try dsimp only at hSw); (try go_split_ands); go_simp; first | done | with_reducible rfl
                    try simp only [Act.put, List.getElem_toArray, List.getElem_cons_succ, List.getElem_cons_zero, List.setIfInBounds_toArray, List.set_cons_zero, List.set_cons_succ]
                    refine wpAnyH_take (i := 6) (v := ?_) rfl (by kernel_rfl) (by kernel_rfl) (by kernel_rfl) (fun _ _ _ h => h) (Or.inl ⟨by first | kernel_rfl | rfl, ?_⟩) (by assumption) ?_
                    rotate_left
                    · intro w hSw; (try dsimp only at hSw); (try go_split_ands); go_simp; first | done | with_reducible rfl
                    try simp only [Act.put, List.getElem_toArray, List.getElem_cons_succ, List.getElem_cons_zero, List.setIfInBounds_toArray, List.set_cons_zero, List.set_cons_succ]
                    refine wpAnyH_take (i := 7) (v := undef) rfl (by kernel_rfl) (by kernel_rfl) (by kernel_rfl) (fun _ _ _ h => h) (Or.inr ⟨by first | kernel_rfl | rfl, rfl⟩) (by assumption) ?_
                    try simp only [Act.put, List.getElem_toArray, List.getElem_cons_succ, List.getElem_cons_zero, List.setIfInBounds_toArray, List.set_cons_zero, List.set_cons_succ]
                    refine wpAnyH_take (i := 8) (v := undef) rfl (by kernel_rfl) (by kernel_rfl) (by kernel_rfl) (fun _ _ _ h => h) (Or.inr ⟨by first | kernel_rfl | rfl, rfl⟩) (by assumption) ?_
                    try simp only [Act.put, List.getElem_toArray, List.getElem_cons_succ, List.getElem_cons_zero, List.setIfInBounds_toArray, List.set_cons_zero, List.set_cons_succ]
                    refine wpAnyH_take (i := 9) (v := undef) rfl (by kernel_rfl) (by kernel_rfl) (by kernel_rfl) (fun _ _ _ h => h) (Or.inr ⟨by first | kernel_rfl | rfl, rfl⟩) (by assumption) ?_
                    try simp only [Act.put, List.getElem_toArray, List.getElem_cons_succ, List.getElem_cons_zero, List.setIfInBounds_toArray, List.set_cons_zero, List.set_cons_succ]
                    refine wpAnyH_take (i := 10) (v := undef) rfl (by kernel_rfl) (by kernel_rfl) (by kernel_rfl) (fun _ _ _ h => h) (Or.inr ⟨by first | kernel_rfl | rfl, rfl⟩) (by assumption) ?_
                    try simp only [Act.put, List.getElem_toArray, List.getElem_cons_succ, List.getElem_cons_zero, List.setIfInBounds_toArray, List.set_cons_zero, List.set_cons_succ]
                    refine wpAnyH_take (i := 11) (v := undef) rfl (by kernel_rfl) (by kernel_rfl) (by kernel_rfl) (fun _ _ _ h => h) (Or.inr ⟨by first | kernel_rfl | rfl, rfl⟩) (by assumption) ?_
                    try simp only [Act.put, List.getElem_toArray, List.getElem_cons_succ, List.getElem_cons_zero, List.setIfInBounds_toArray, List.set_cons_zero, List.set_cons_succ]
                    refine wpAnyH_take (i := 12) (v := undef) rfl (by kernel_rfl) (by kernel_rfl) (by kernel_rfl) (fun _ _ _ h => h) (Or.inr ⟨by first | kernel_rfl | rfl, rfl⟩) (by assumption) ?_
                    try simp only [Act.put, List.getElem_toArray, List.getElem_cons_succ, List.getElem_cons_zero, List.setIfInBounds_toArray, List.set_cons_zero, List.set_cons_succ]
                    refine wpAnyH_take (i := 13) (v := undef) rfl (by kernel_rfl) (by kernel_rfl) (by kernel_rfl) (fun _ _ _ h => h) (Or.inr ⟨by first | kernel_rfl | rfl, rfl⟩) (by assumption) ?_
                    try simp only [Act.put, List.getElem_toArray, List.getElem_cons_succ, List.getElem_cons_zero, List.setIfInBounds_toArray, List.set_cons_zero, List.set_cons_succ]
                    refine wpAnyH_take (i := 14) (v := undef) rfl (by kernel_rfl) (by kernel_rfl) (by kernel_rfl) (fun _ _ _ h => h) (Or.inr ⟨by first | kernel_rfl | rfl, rfl⟩) (by assumption) ?_
                    try simp only [Act.put, List.getElem_toArray, List.getElem_cons_succ, List.getElem_cons_zero, List.setIfInBounds_toArray, List.set_cons_zero, List.set_cons_succ]
                    refine wpAnyH_take (i := 15) (v := ?_) rfl (by kernel_rfl) (by kernel_rfl) (by kernel_rfl) (fun _ _ _ h => h) (Or.inl ⟨by first | kernel_rfl | rfl, ?_⟩) (by assumption) ?_
                    rotate_left
                    · intro w hSw; (try dsimp only at hSw); (try go_split_ands); go_simp; first | done | with_reducible rfl
                    try simp only [Act.put, List.getElem_toArray, List.getElem_cons_succ, List.getElem_cons_zero, List.setIfInBounds_toArray, List.set_cons_zero, List.set_cons_succ]
                    refine wpAnyH_done (by kernel_rfl) ?_ _
                    refine NoPanic.normal ?_
                    have xd := (hkp M8).2.2
                    clear hck hkp hHeld nds
                    go_wp2_with fail
                    refine HC.mono ?_
                    rintro e wc ⟨rfl, M9⟩
                    clear HC M8 xd
                    go_wp2
                    go_roundw
                    case rel => exact ⟨d + 1, by omega, by go_num, M9⟩
                    case measure => simp [intOf]; omega
                  · have nds : ((d : Int) != (s8 : Int)) = true := by rw [bne_iff_ne]; omega
                    have hsm := HEQ.out.2.2 d hds
                    have hnm : ∀ {w' : World}, Law base2 (fun _ => False) wx4 w' (.pointer p2) F2 [(q17, cs2, 122)] (fun w X => Slots cs2 Ls2 w X ∧ Slots cs Ls w X ∧ Lies q8 cs 122 w X ∧ Lies q5 #[.int .u8 (s1 : Int), .int .u8 (s2 : Int)] 133 w X) →
                        Calls Try.prog 47 #[.slice B1 (Ls d).length e1, .slice B2 (Ls2 d).length e2] w' fun e w2 => e = .returned (.bool true) ∧ Law base2 (fun _ => False) wx4 w2 (.pointer p2) F2 [(q17, cs2, 122)] (fun w X => Slots cs2 Ls2 w X ∧ Slots cs Ls w X ∧ Lies q8 cs 122 w X ∧ Lies q5 #[.int .u8 (s1 : Int), .int .u8 (s2 : Int)] 133 w X) := fun {w'} L => by
                      obtain ⟨X, hX⟩ := L.know
                      obtain ⟨v', hv', A', c', e', -, hr⟩ := hX.1 d hd8
                      rw [hv2] at hv'
                      cases hv'
                      cases e'
                      obtain ⟨v', hv', A', c', e', -, hr'⟩ := hX.2.1 d hd8
                      rw [hv1] at hv'
                      cases hv'
                      cases e'
                      have HN := L.read (rnums (c0 := e1) (c1 := e2) hr' hr (by rw [← hsm]; omega))
                      rw [decide_eq_true hsm.symm] at HN
                      exact HN
                    clear hr1 hr2 hX X hfew hmem htold hled2 M7
                    have HN := hnm M8
                    have HKP := Lib.hid (fun w' => @hkp w')
                    have HCK := Lib.hid (fun w' => @hck w')
                    have h0 := hkp M8
                    clear hnm hck hkp M8 hsm hv1 hv2
                    go_wp2_with fail
                    refine region_plain (fun w' => w'.cell? ⟨q5, 0, none⟩ = some (.int .u8 (s1 : Int)) ∧ w'.cell? ⟨q8, d, none⟩ = some (.slice B1 (Ls d).length e1) ∧ w'.cell? ⟨q17, d, none⟩ = some (.slice B2 (Ls2 d).length e2)) (by kernel_rfl) h0 (fun hHeld => ?_)
                    clear h0
                    refine wpAnyH_take (i := 0) (v := ?_) rfl (by kernel_rfl) (by kernel_rfl) (by kernel_rfl) (fun _ _ _ h => h) (Or.inl ⟨by first | kernel_rfl | rfl, ?_⟩) (by assumption) ?_
                    rotate_left
                    · intro w hSw; (try dsimp only at hSw); (try go_split_ands); go_simp; first | done | with_reducible rfl
                    try simp only [Act.put, List.getElem_toArray, List.getElem_cons_zero, List.setIfInBounds_toArray, List.set_cons_zero, List.set_cons_succ]
                    refine wpAnyH_take (i := 1) (v := ?_) rfl (by kernel_rfl) (by kernel_rfl) (by kernel_rfl) (fun _ _ _ h => h) (Or.inl ⟨by first | kernel_rfl | rfl, ?_⟩) (by assumption) ?_
                    rotate_left
                    · intro w hSw; (try dsimp only at hSw); (try go_split_ands); go_simp; first | done | with_reducible rfl
                    try simp only [Act.put, List.getElem_toArray, List.getElem_cons_succ, List.getElem_cons_zero, List.setIfInBounds_toArray, List.set_cons_zero, List.set_cons_succ]
                    refine wpAnyH_take (i := 2) (v := ?_) rfl (by kernel_rfl) (by kernel_rfl) (by kernel_rfl) (fun _ _ _ h => h) (Or.inl ⟨by first | kernel_rfl | rfl, ?_⟩) (by assumption) ?_
                    rotate_left
                    · intro w hSw; (try dsimp only at hSw); (try go_split_ands); go_simp; first | done | with_reducible rfl
                    try simp only [Act.put, List.getElem_toArray, List.getElem_cons_succ, List.getElem_cons_zero, List.setIfInBounds_toArray, List.set_cons_zero, List.set_cons_succ]
                    refine wpAnyH_take (i := 3) (v := ?_) rfl (by kernel_rfl) (by kernel_rfl) (by kernel_rfl) (fun _ _ _ h => h) (Or.inl ⟨by first | kernel_rfl | rfl, ?_⟩) (by assumption) ?_
                    rotate_left
                    · intro w hSw; (try dsimp only at hSw); (try go_split_ands); go_simp; first | done | with_reducible rfl
                    try simp only [Act.put, List.getElem_toArray, List.getElem_cons_succ, List.getElem_cons_zero, List.setIfInBounds_toArray, List.set_cons_zero, List.set_cons_succ]
                    refine wpAnyH_take (i := 4) (v := ?_) rfl (by kernel_rfl) (by kernel_rfl) (by kernel_rfl) (fun _ _ _ h => h) (Or.inl ⟨by first | kernel_rfl | rfl, ?_⟩) (by assumption) ?_
                    rotate_left
                    · intro w hSw; (try dsimp only at hSw); (try go_split_ands); go_simp; first | done | with_reducible rfl
                    try simp only [Act.put, List.getElem_toArray, List.getElem_cons_succ, List.getElem_cons_zero, List.setIfInBounds_toArray, List.set_cons_zero, List.set_cons_succ]
                    refine wpAnyH_take (i := 5) (v := ?_) rfl (by kernel_rfl) (by kernel_rfl) (by kernel_rfl) (fun _ _ _ h => h) (Or.inl ⟨by first | kernel_rfl | rfl, ?_⟩) (by assumption) ?_
                    rotate_left
                    · intro w hSw; (try dsimp only at hSw); (try go_split_ands); go_simp; first | done | with_reducible rfl
                    try simp only [Act.put, List.getElem_toArray, List.getElem_cons_succ, List.getElem_cons_zero, List.setIfInBounds_toArray, List.set_cons_zero, List.set_cons_succ]
                    refine wpAnyH_take (i := 6) (v := ?_) rfl (by kernel_rfl) (by kernel_rfl) (by kernel_rfl) (fun _ _ _ h => h) (Or.inl ⟨by first | kernel_rfl | rfl, ?_⟩) (by assumption) ?_
                    rotate_left
                    · intro w hSw; (try dsimp only at hSw); (try go_split_ands); go_simp; first | done | with_reducible rfl
                    try simp only [Act.put, List.getElem_toArray, List.getElem_cons_succ, List.getElem_cons_zero, List.setIfInBounds_toArray, List.set_cons_zero, List.set_cons_succ]
                    refine wpAnyH_take (i := 7) (v := ?_) rfl (by kernel_rfl) (by kernel_rfl) (by kernel_rfl) (fun _ _ _ h => h) (Or.inl ⟨by first | kernel_rfl | rfl, ?_⟩) (by assumption) ?_
                    rotate_left
                    · intro w hSw; (try dsimp only at hSw); (try go_split_ands); go_simp; first | done | with_reducible rfl
                    try simp only [Act.put, List.getElem_toArray, List.getElem_cons_succ, List.getElem_cons_zero, List.setIfInBounds_toArray, List.set_cons_zero, List.set_cons_succ]
                    refine wpAnyH_take (i := 8) (v := ?_) rfl (by kernel_rfl) (by kernel_rfl) (by kernel_rfl) (fun _ _ _ h => h) (Or.inl ⟨by first | kernel_rfl | rfl, ?_⟩) (by assumption) ?_
                    rotate_left
                    · intro w hSw; (try dsimp only at hSw); (try go_split_ands); go_simp; first | done | with_reducible rfl
                    try simp only [Act.put, List.getElem_toArray, List.getElem_cons_succ, List.getElem_cons_zero, List.setIfInBounds_toArray, List.set_cons_zero, List.set_cons_succ]
                    refine wpAnyH_take (i := 9) (v := ?_) rfl (by kernel_rfl) (by kernel_rfl) (by kernel_rfl) (fun _ _ _ h => h) (Or.inl ⟨by first | kernel_rfl | rfl, ?_⟩) (by assumption) ?_
                    rotate_left
                    · intro w hSw; (try dsimp only at hSw); (try go_split_ands); go_simp; first | done | with_reducible rfl
                    try simp only [Act.put, List.getElem_toArray, List.getElem_cons_succ, List.getElem_cons_zero, List.setIfInBounds_toArray, List.set_cons_zero, List.set_cons_succ]
                    refine wpAnyH_take (i := 10) (v := ?_) rfl (by kernel_rfl) (by kernel_rfl) (by kernel_rfl) (fun _ _ _ h => h) (Or.inl ⟨by first | kernel_rfl | rfl, ?_⟩) (by assumption) ?_
                    rotate_left
                    · intro w hSw; (try dsimp only at hSw); (try go_split_ands); go_simp; first | done | with_reducible rfl
                    try simp only [Act.put, List.getElem_toArray, List.getElem_cons_succ, List.getElem_cons_zero, List.setIfInBounds_toArray, List.set_cons_zero, List.set_cons_succ]
                    refine wpAnyH_take (i := 11) (v := ?_) rfl (by kernel_rfl) (by kernel_rfl) (by kernel_rfl) (fun _ _ _ h => h) (Or.inl ⟨by first | kernel_rfl | rfl, ?_⟩) (by assumption) ?_
                    rotate_left
                    · intro w hSw; (try dsimp only at hSw); (try go_split_ands); go_simp; first | done | with_reducible rfl
                    try simp only [Act.put, List.getElem_toArray, List.getElem_cons_succ, List.getElem_cons_zero, List.setIfInBounds_toArray, List.set_cons_zero, List.set_cons_succ]
                    refine wpAnyH_take (i := 12) (v := ?_) rfl (by kernel_rfl) (by kernel_rfl) (by kernel_rfl) (fun _ _ _ h => h) (Or.inl ⟨by first | kernel_rfl | rfl, ?_⟩) (by assumption) ?_
                    rotate_left
                    · intro w hSw; (try dsimp only at hSw); (try go_split_ands); go_simp; first | done | with_reducible rfl
                    try simp only [Act.put, List.getElem_toArray, List.getElem_cons_succ, List.getElem_cons_zero, List.setIfInBounds_toArray, List.set_cons_zero, List.set_cons_succ]
                    refine wpAnyH_ready (rs := [13]) (by kernel_rfl) (by simp) ?_
                    refine AllReadyH.cons rfl (fun K hK => ?_) AllReadyH.nil
                    go_simp
                    go_at_call 47
                    refine Calls.mono HN ?_
                    rintro e wb ⟨rfl, M9⟩
                    clear HN
                    go_wp2_with fail
                    refine hK.out _ _ ?_ (fun hHeld => ?_)
                    · exact HKP.out _ M9
                    clear hK K
                    try simp only [Act.put, List.getElem_toArray, List.getElem_cons_succ, List.getElem_cons_zero, List.setIfInBounds_toArray, List.set_cons_zero, List.set_cons_succ]
                    refine wpAnyH_take (i := 14) (v := ?_) rfl (by kernel_rfl) (by kernel_rfl) (by kernel_rfl) (fun _ _ _ h => h) (Or.inl ⟨by first | kernel_rfl | rfl, ?_⟩) (by assumption) ?_
                    rotate_left
                    · intro w hSw; (try dsimp only at hSw); (try go_split_ands); go_simp; first | done | with_reducible rfl
                    try simp only [Act.put, List.getElem_toArray, List.getElem_cons_succ, List.getElem_cons_zero, List.setIfInBounds_toArray, List.set_cons_zero, List.set_cons_succ]
                    refine wpAnyH_take (i := 15) (v := ?_) rfl (by kernel_rfl) (by kernel_rfl) (by kernel_rfl) (fun _ _ _ h => h) (Or.inl ⟨by first | kernel_rfl | rfl, ?_⟩) (by assumption) ?_
                    rotate_left
                    · intro w hSw; (try dsimp only at hSw); (try go_split_ands); go_simp; first | done | with_reducible rfl
                    try simp only [Act.put, List.getElem_toArray, List.getElem_cons_succ, List.getElem_cons_zero, List.setIfInBounds_toArray, List.set_cons_zero, List.set_cons_succ]
                    refine wpAnyH_done (by kernel_rfl) ?_ _
                    refine NoPanic.normal ?_
                    have xd := (HKP.out _ M9).2.2
                    have HC := HCK.out _ M9
                    clear hHeld nds
                    go_wp2_with fail
                    refine HC.mono ?_
                    rintro e wc ⟨rfl, M10⟩
                    clear HC M9 xd
                    go_wp2
                    go_roundw
                    case rel => exact ⟨d + 1, by omega, by go_num, M10⟩
                    case measure => simp [intOf]; omega
                · obtain rfl : d = 8 := by omega
                  have g0 : decide (((8 : Nat) : Int) < 8) = false := decide_eq_false (by omega)
                  have hg10 := M7.done
                  clear M7
                  go_wp2
                  go_ret
                  exact ⟨rfl, hga.trans (hg9.trans hg10)⟩
      refine region_plain (fun w' => w'.cell? ⟨q5, 0, none⟩ = some (.int .u8 (s1 : Int)) ∧ w'.cell? ⟨q5, 1, none⟩ = some (.int .u8 (s2 : Int))) (by kernel_rfl) (hkp (grow_drew _)).1 (fun hHeld => ?_)
      refine wpAnyH_take (i := 1) (v := ?_) rfl (by kernel_rfl) (by kernel_rfl) (by kernel_rfl) (fun _ _ _ h => h) (Or.inl ⟨by first | kernel_rfl | rfl, ?_⟩) (by assumption) ?_
      rotate_left
      · intro w hSw; (try dsimp only at hSw); (try go_split_ands); go_simp; first | done | with_reducible rfl
      try simp only [Act.put, List.getElem_toArray, List.getElem_cons_succ, List.getElem_cons_zero, List.setIfInBounds_toArray, List.set_cons_zero, List.set_cons_succ]
      refine wpAnyH_take (i := 3) (v := ?_) rfl (by kernel_rfl) (by kernel_rfl) (by kernel_rfl) (fun _ _ _ h => h) (Or.inl ⟨by first | kernel_rfl | rfl, ?_⟩) (by assumption) ?_
      rotate_left
      · intro w hSw; (try dsimp only at hSw); (try go_split_ands); go_simp; first | done | with_reducible rfl
      try simp only [Act.put, List.getElem_toArray, List.getElem_cons_succ, List.getElem_cons_zero, List.setIfInBounds_toArray, List.set_cons_zero, List.set_cons_succ]
      refine wpAnyH_ready (rs := [0, 4]) (by kernel_rfl) (by simp) ?_
      refine AllReadyH.cons rfl (fun K hK => ?_) (AllReadyH.cons rfl (fun K hK => ?_) AllReadyH.nil)
      ·
        go_simp
        have hG1 : Grow wr ((wr.alloc (.cells #[] 133)).drew) := Grow.trans (show Grow wr _ from ((Below.refl wr.heap.size wr).alloc (Nat.le_refl _) (.cells #[] 133))) (grow_drew _)
        have hO := World.ownsRow_lit (base := wr.heap.size) (e := 133) (size := 2) wr #[] 0 (Nat.le_refl _) (by decide) rfl
        have hO := own_grow hO (grow_drew _)
        refine hK.out _ _ ?_ (fun hHeld => ?_)
        · exact (hkp hG1).1
        clear hK K
        try simp only [Act.put, List.getElem_toArray, List.getElem_cons_succ, List.getElem_cons_zero, List.setIfInBounds_toArray, List.set_cons_zero, List.set_cons_succ]
        obtain ⟨wx1, hwx1⟩ : ∃ z, ((wr.alloc (.cells #[] 133)).drew) = z := ⟨_, rfl⟩
        rw [hwx1] at hG1 hO hHeld ⊢
        clear hwx1
        refine wpAnyH_ready (rs := [2, 4]) (by kernel_rfl) (by simp) ?_
        refine AllReadyH.cons rfl (fun K hK => ?_) (AllReadyH.cons rfl (fun K hK => ?_) AllReadyH.nil)
        ·
          refine step_append_row wx1 rfl (.tmp 53) (.tmp 54) 119 rfl wr.heap.size 133 i133 _ 2 2 Try.underlying119 hi3 hz3 hs3 hb3 rfl (by decide) _ 0 [] rfl hO D2 l2.length m2 (stps l2) rfl (hkp hG1).2 hD20 hone2 (by unfold maxLen; omega) (by omega) hG1.size ?_
          intro v5 wx2 hO5 hy5
          have hG2 : Grow wr wx2 := grow_own hG1 hO hy5
          rw [Nat.zero_add, List.nil_append] at hO5
          clear hO hy5
          refine hK.out _ _ ?_ (fun hHeld => ?_)
          · exact (hkp hG2).1
          clear hK K
          try simp only [Act.put, List.getElem_toArray, List.getElem_cons_succ, List.getElem_cons_zero, List.setIfInBounds_toArray, List.set_cons_zero, List.set_cons_succ]
          refine wpAnyH_ready (rs := [4]) (by kernel_rfl) (by simp) ?_
          refine AllReadyH.cons rfl (fun K hK => ?_) AllReadyH.nil
          go_simp
          have hS3 : Grow wx2 (wx2.alloc (.cells #[.int .u8 (s1 : Int), .int .u8 (s2 : Int)] 133)) := ((Below.refl wx2.heap.size wx2).alloc (Nat.le_refl _) (.cells #[.int .u8 (s1 : Int), .int .u8 (s2 : Int)] 133))
          have hG3 : Grow wr (wx2.alloc (.cells #[.int .u8 (s1 : Int), .int .u8 (s2 : Int)] 133)) := hG2.trans hS3
          have hO5 := own_grow hO5 hS3
          have hB := World.alloc_heap_new wx2 (.cells #[.int .u8 (s1 : Int), .int .u8 (s2 : Int)] 133)
          refine hK.out _ _ ?_ (fun hHeld => ?_)
          · exact (hkp hG3).1
          clear hK K
          try simp only [Act.put, List.getElem_toArray, List.getElem_cons_succ, List.getElem_cons_zero, List.setIfInBounds_toArray, List.set_cons_zero, List.set_cons_succ]
          obtain ⟨wx3, hwx3⟩ : ∃ z, (wx2.alloc (.cells #[.int .u8 (s1 : Int), .int .u8 (s2 : Int)] 133)) = z := ⟨_, rfl⟩
          rw [hwx3] at hG3 hO5 hB hHeld ⊢
          clear hwx3
          refine wpAnyH_ready (rs := [5]) (by kernel_rfl) (by simp) ?_
          refine AllReadyH.cons rfl (fun K hK => ?_) AllReadyH.nil
          refine step_append_row (S := fun _ => True) wx3 rfl (.tmp 55) (.tmp 57) 119 rfl wr.heap.size 133 i133 _ 2 2 Try.underlying119 hi3 hz3 hs3 hb3 rfl (by decide) v5 l2.length (stps l2) rfl hO5 _ 1 1 [.int .u8 (s1 : Int), .int .u8 (s2 : Int)] rfl (Row.of_block hB trivial rfl (fun j u hj => by simpa using hj)) (fun h => by cases h) (by simp [Value.oneCell']) (by unfold maxLen; omega) (by omega) hG3.size ?_
          intro v8 wx4 hO8 hy8
          have hG4 : Grow wr wx4 := grow_own hG3 hO5 hy8
          clear hO5 hy8 hB
          refine hK.out _ _ ?_ (fun hHeld => ?_)
          · exact (hkp hG4).1
          clear hK K
          try simp only [Act.put, List.getElem_toArray, List.getElem_cons_succ, List.getElem_cons_zero, List.setIfInBounds_toArray, List.set_cons_zero, List.set_cons_succ]
          refine wpAnyH_take (i := 6) (v := ?_) rfl (by kernel_rfl) (by kernel_rfl) (by kernel_rfl) (fun _ _ _ h => h) (Or.inl ⟨by first | kernel_rfl | rfl, ?_⟩) (by assumption) ?_
          rotate_left
          · intro w hSw; (try dsimp only at hSw); (try go_split_ands); go_simp; first | done | with_reducible rfl
          try simp only [Act.put, List.getElem_toArray, List.getElem_cons_succ, List.getElem_cons_zero, List.setIfInBounds_toArray, List.set_cons_zero, List.set_cons_succ]
          refine wpAnyH_done (by kernel_rfl) ?_ _
          refine NoPanic.normal ?_
          obtain ⟨Z, cz, rfl, hz0, hrz⟩ := own_open hO8
          refine ⟨rfl, .slice (some ⟨wr.heap.size, 0, none⟩) 0 0, .slice D2 l2.length m2, v5, .agg #[.int .u8 (s1 : Int), .int .u8 (s2 : Int)], .slice (some ⟨wx2.heap.size, 0, none⟩) 1 1, .slice Z (l2.length + 1) cz, Z, cz, ?_, hG4, hrz⟩
          rfl
        ·
          go_simp
          have hltB := (hO.lt _ rfl).2
          have hS2 : Grow wx1 (wx1.alloc (.cells #[.int .u8 (s1 : Int), .int .u8 (s2 : Int)] 133)) := ((Below.refl wx1.heap.size wx1).alloc (Nat.le_refl _) (.cells #[.int .u8 (s1 : Int), .int .u8 (s2 : Int)] 133))
          have hG2 : Grow wr (wx1.alloc (.cells #[.int .u8 (s1 : Int), .int .u8 (s2 : Int)] 133)) := hG1.trans hS2
          have hO := own_grow hO hS2
          have hB := World.alloc_heap_new wx1 (.cells #[.int .u8 (s1 : Int), .int .u8 (s2 : Int)] 133)
          refine hK.out _ _ ?_ (fun hHeld => ?_)
          · exact (hkp hG2).1
          clear hK K
          try simp only [Act.put, List.getElem_toArray, List.getElem_cons_succ, List.getElem_cons_zero, List.setIfInBounds_toArray, List.set_cons_zero, List.set_cons_succ]
          obtain ⟨wx2, hwx2⟩ : ∃ z, (wx1.alloc (.cells #[.int .u8 (s1 : Int), .int .u8 (s2 : Int)] 133)) = z := ⟨_, rfl⟩
          rw [hwx2] at hG2 hO hB hHeld ⊢
          clear hwx2
          refine wpAnyH_ready (rs := [2]) (by kernel_rfl) (by simp) ?_
          refine AllReadyH.cons rfl (fun K hK => ?_) AllReadyH.nil
          refine step_append_row wx2 rfl (.tmp 53) (.tmp 54) 119 rfl wr.heap.size 133 i133 _ 2 2 Try.underlying119 hi3 hz3 hs3 hb3 rfl (by decide) _ 0 [] rfl hO D2 l2.length m2 (stps l2) rfl (hkp hG2).2 hD20 hone2 (by unfold maxLen; omega) (by omega) hG2.size ?_
          intro v5 wx3 hO5 hy5
          have hG3 : Grow wr wx3 := grow_own hG2 hO hy5
          have hB := only_heap hB hy5 (fun e => (by first | exact Nat.ne_of_lt hltB (Option.some.inj e) | exact Nat.ne_of_gt hltB (Option.some.inj e)))
          rw [Nat.zero_add, List.nil_append] at hO5
          clear hO hy5
          refine hK.out _ _ ?_ (fun hHeld => ?_)
          · exact (hkp hG3).1
          clear hK K
          try simp only [Act.put, List.getElem_toArray, List.getElem_cons_succ, List.getElem_cons_zero, List.setIfInBounds_toArray, List.set_cons_zero, List.set_cons_succ]
          refine wpAnyH_ready (rs := [5]) (by kernel_rfl) (by simp) ?_
          refine AllReadyH.cons rfl (fun K hK => ?_) AllReadyH.nil
          refine step_append_row (S := fun _ => True) wx3 rfl (.tmp 55) (.tmp 57) 119 rfl wr.heap.size 133 i133 _ 2 2 Try.underlying119 hi3 hz3 hs3 hb3 rfl (by decide) v5 l2.length (stps l2) rfl hO5 _ 1 1 [.int .u8 (s1 : Int), .int .u8 (s2 : Int)] rfl (Row.of_block hB trivial rfl (fun j u hj => by simpa using hj)) (fun h => by cases h) (by simp [Value.oneCell']) (by unfold maxLen; omega) (by omega) hG3.size ?_
          intro v8 wx4 hO8 hy8
          have hG4 : Grow wr wx4 := grow_own hG3 hO5 hy8
          clear hO5 hy8 hB
          refine hK.out _ _ ?_ (fun hHeld => ?_)
          · exact (hkp hG4).1
          clear hK K
          try simp only [Act.put, List.getElem_toArray, List.getElem_cons_succ, List.getElem_cons_zero, List.setIfInBounds_toArray, List.set_cons_zero, List.set_cons_succ]
          refine wpAnyH_take (i := 6) (v := ?_) rfl (by kernel_rfl) (by kernel_rfl) (by kernel_rfl) (fun _ _ _ h => h) (Or.inl ⟨by first | kernel_rfl | rfl, ?_⟩) (by assumption) ?_
          rotate_left
          · intro w hSw; (try dsimp only at hSw); (try go_split_ands); go_simp; first | done | with_reducible rfl
          try simp only [Act.put, List.getElem_toArray, List.getElem_cons_succ, List.getElem_cons_zero, List.setIfInBounds_toArray, List.set_cons_zero, List.set_cons_succ]
          refine wpAnyH_done (by kernel_rfl) ?_ _
          refine NoPanic.normal ?_
          obtain ⟨Z, cz, rfl, hz0, hrz⟩ := own_open hO8
          refine ⟨rfl, .slice (some ⟨wr.heap.size, 0, none⟩) 0 0, .slice D2 l2.length m2, v5, .agg #[.int .u8 (s1 : Int), .int .u8 (s2 : Int)], .slice (some ⟨wx1.heap.size, 0, none⟩) 1 1, .slice Z (l2.length + 1) cz, Z, cz, ?_, hG4, hrz⟩
          rfl
      ·
        go_simp
        have hG1 : Grow wr ((wr.alloc (.cells #[.int .u8 (s1 : Int), .int .u8 (s2 : Int)] 133)).drew) := Grow.trans (show Grow wr _ from ((Below.refl wr.heap.size wr).alloc (Nat.le_refl _) (.cells #[.int .u8 (s1 : Int), .int .u8 (s2 : Int)] 133))) (grow_drew _)
        have hB := World.alloc_heap_new wr (.cells #[.int .u8 (s1 : Int), .int .u8 (s2 : Int)] 133)
        have hB := (grow_drew _).heap hB
        refine hK.out _ _ ?_ (fun hHeld => ?_)
        · exact (hkp hG1).1
        clear hK K
        try simp only [Act.put, List.getElem_toArray, List.getElem_cons_succ, List.getElem_cons_zero, List.setIfInBounds_toArray, List.set_cons_zero, List.set_cons_succ]
        obtain ⟨wx1, hwx1⟩ : ∃ z, ((wr.alloc (.cells #[.int .u8 (s1 : Int), .int .u8 (s2 : Int)] 133)).drew) = z := ⟨_, rfl⟩
        rw [hwx1] at hG1 hB hHeld ⊢
        clear hwx1
        refine wpAnyH_ready (rs := [0]) (by kernel_rfl) (by simp) ?_
        refine AllReadyH.cons rfl (fun K hK => ?_) AllReadyH.nil
        go_simp
        have hltB := lt_of_heap hB
        have hS2 : Grow wx1 (wx1.alloc (.cells #[] 133)) := ((Below.refl wx1.heap.size wx1).alloc (Nat.le_refl _) (.cells #[] 133))
        have hG2 : Grow wr (wx1.alloc (.cells #[] 133)) := hG1.trans hS2
        have hB := hS2.heap hB
        have hO := World.ownsRow_lit (base := wr.heap.size) (e := 133) (size := 2) wx1 #[] 0 hG1.size (by decide) rfl
        refine hK.out _ _ ?_ (fun hHeld => ?_)
        · exact (hkp hG2).1
        clear hK K
        try simp only [Act.put, List.getElem_toArray, List.getElem_cons_succ, List.getElem_cons_zero, List.setIfInBounds_toArray, List.set_cons_zero, List.set_cons_succ]
        obtain ⟨wx2, hwx2⟩ : ∃ z, (wx1.alloc (.cells #[] 133)) = z := ⟨_, rfl⟩
        rw [hwx2] at hG2 hO hB hHeld ⊢
        clear hwx2
        refine wpAnyH_ready (rs := [2]) (by kernel_rfl) (by simp) ?_
        refine AllReadyH.cons rfl (fun K hK => ?_) AllReadyH.nil
        refine step_append_row wx2 rfl (.tmp 53) (.tmp 54) 119 rfl wr.heap.size 133 i133 _ 2 2 Try.underlying119 hi3 hz3 hs3 hb3 rfl (by decide) _ 0 [] rfl hO D2 l2.length m2 (stps l2) rfl (hkp hG2).2 hD20 hone2 (by unfold maxLen; omega) (by omega) hG2.size ?_
        intro v5 wx3 hO5 hy5
        have hG3 : Grow wr wx3 := grow_own hG2 hO hy5
        have hB := only_heap hB hy5 (fun e => (by first | exact Nat.ne_of_lt hltB (Option.some.inj e) | exact Nat.ne_of_gt hltB (Option.some.inj e)))
        rw [Nat.zero_add, List.nil_append] at hO5
        clear hO hy5
        refine hK.out _ _ ?_ (fun hHeld => ?_)
        · exact (hkp hG3).1
        clear hK K
        try simp only [Act.put, List.getElem_toArray, List.getElem_cons_succ, List.getElem_cons_zero, List.setIfInBounds_toArray, List.set_cons_zero, List.set_cons_succ]
        refine wpAnyH_ready (rs := [5]) (by kernel_rfl) (by simp) ?_
        refine AllReadyH.cons rfl (fun K hK => ?_) AllReadyH.nil
        refine step_append_row (S := fun _ => True) wx3 rfl (.tmp 55) (.tmp 57) 119 rfl wr.heap.size 133 i133 _ 2 2 Try.underlying119 hi3 hz3 hs3 hb3 rfl (by decide) v5 l2.length (stps l2) rfl hO5 _ 1 1 [.int .u8 (s1 : Int), .int .u8 (s2 : Int)] rfl (Row.of_block hB trivial rfl (fun j u hj => by simpa using hj)) (fun h => by cases h) (by simp [Value.oneCell']) (by unfold maxLen; omega) (by omega) hG3.size ?_
        intro v8 wx4 hO8 hy8
        have hG4 : Grow wr wx4 := grow_own hG3 hO5 hy8
        clear hO5 hy8 hB
        refine hK.out _ _ ?_ (fun hHeld => ?_)
        · exact (hkp hG4).1
        clear hK K
        try simp only [Act.put, List.getElem_toArray, List.getElem_cons_succ, List.getElem_cons_zero, List.setIfInBounds_toArray, List.set_cons_zero, List.set_cons_succ]
        refine wpAnyH_take (i := 6) (v := ?_) rfl (by kernel_rfl) (by kernel_rfl) (by kernel_rfl) (fun _ _ _ h => h) (Or.inl ⟨by first | kernel_rfl | rfl, ?_⟩) (by assumption) ?_
        rotate_left
        · intro w hSw; (try dsimp only at hSw); (try go_split_ands); go_simp; first | done | with_reducible rfl
        try simp only [Act.put, List.getElem_toArray, List.getElem_cons_succ, List.getElem_cons_zero, List.setIfInBounds_toArray, List.set_cons_zero, List.set_cons_succ]
        refine wpAnyH_done (by kernel_rfl) ?_ _
        refine NoPanic.normal ?_
        obtain ⟨Z, cz, rfl, hz0, hrz⟩ := own_open hO8
        refine ⟨rfl, .slice (some ⟨wx1.heap.size, 0, none⟩) 0 0, .slice D2 l2.length m2, v5, .agg #[.int .u8 (s1 : Int), .int .u8 (s2 : Int)], .slice (some ⟨wr.heap.size, 0, none⟩) 1 1, .slice Z (l2.length + 1) cz, Z, cz, ?_, hG4, hrz⟩
        rfl
end Go.Proofs.Ck
