/- Logs: the words that lay one. -/
import Derived.Test.YtpakfelekphbmaaIntent1
import Derived.Test.YtpakfelekphbmaaSame
import Derived.Deep.RegionHeld3
namespace Go.Proofs.Ck
open Go Go.RowKit

/-- The two words that lay one of a log's words. -/
def logP (c k : Nat) (q : Nat × Nat) : List (Nat × Nat) := [(64 + 416 * c + (32 + 16 * k), q.1), (64 + 416 * c + (40 + 16 * k), q.2)]
/-- The words that lay the first k of a log's words. -/
def logN (c : Nat) (l : List (Nat × Nat)) (k : Nat) : List (Nat × Nat) := (List.range k).flatMap fun i => logP c i (l.getD i (0, 0))
theorem logN_succ (c : Nat) (l : List (Nat × Nat)) (k : Nat) : logN c l (k + 1) = logN c l k ++ logP c k (l.getD k (0, 0)) := by simp [logN, List.range_succ]
theorem logN_length (c : Nat) (l : List (Nat × Nat)) (k : Nat) : (logN c l k).length = 2 * k := by
  induction k with
  | zero => rfl
  | succ k ih => rw [logN_succ, List.length_append, ih]; simp [logP]; omega
theorem puts_append (p q : List (Nat × Nat)) : puts (p ++ q) = puts p ++ puts q := by simp [puts]

section
variable {P : Program}
/-- 'append(s, x, y, ..)' of m elements, that lie in a block that has just been laid. -/
theorem wpList_pushm (m : Nat) (w : World) {W : World} {ops : Array Oper} {rest : List Oper} {o : Oper} {a : Act} {Q : Exit → Act → World → Prop} (hgd : o.guard = none) (s x : Operand) (t : TypeId)
    (ho : o.op = .call { callee := .builtin .append, args := #[s, x], argTypes := #[t, t] })
    (base : Nat) (e : TypeId) (i : TypeInfo) (z : Value) (size bytes : Nat) (ht : P.underlying t = some (.slice e)) (hi : P.info? e = some i) (hz : i.zero = some z)
    (hsize : i.size = size) (hby : i.bytes = bytes) (hzs : z.cells.size = size) (hsz : 0 < size)
    (v : Value) (n : Nat) (xs : List Value) (hs : a.eval s = v) (hown : w.ownsRow base e size v n xs)
    (cs : Array Value) (hx : a.eval x = .slice (some ⟨w.heap.size, 0, none⟩) m m) (hcs : cs.size = m * size) (h1 : ∀ u ∈ cs.toList, u.oneCell' = true)
    (hW : W = w.alloc (.cells cs e)) (h63 : n + m ≤ maxLen) (hbytes : (n + m) * bytes ≤ 140737488355328) (hbase : base ≤ w.heap.size)
    (h : ∀ v' w', w'.ownsRow base e size v' (n + m) (xs ++ cs.toList) → Only (fun b => v.ownBlock = some b) w w' → wpList P ops Q rest (a.put o.dst v') w') : wpList P ops Q (o :: rest) a W := by
  subst hW
  have hnew : (w.alloc (.cells cs e)).heap[w.heap.size]? = some (.cells cs e (0, 0)) := World.alloc_heap_new w _
  refine wpList_append_row (S := fun _ => True) (w.alloc (.cells cs e)) hgd s x t ho base e i z size bytes ht hi hz hsize hby hzs hsz v n xs hs (hown.alloc _)
    (some ⟨w.heap.size, 0, none⟩) m m cs.toList hx ⟨by simpa using hcs, fun _ => ⟨_, _, rfl, trivial, fun j u hj => ?_⟩⟩ (fun h => by cases h) h1 h63 hbytes (by simp; omega) fun v' w' r1 r2 => h v' w' r1 ?_
  · rw [cell_of_heap hnew]; simpa using hj
  · have r0 : Only (fun b => v.ownBlock = some b) w (w.alloc (.cells cs e)) := (Only.refl _ _).alloc _
    exact r0.trans r2
end
theorem atX (w : World) {c what o : Nat} {x : Int} (hx : x = (what : Int)) (hc : c < 8) (h8 : what % 8 = 0) (hw : what < 416) (ho : 64 + 416 * c + what = o) : Calls Try.prog 161 #[.int .i64 (c : Int), .int .u64 x] w fun e w' => e = .returned (.int .u64 (o : Int)) ∧ w = w' := by
  subst hx
  exact at_ok w hc h8 hw ho
theorem ratX (w : World) {c what o : Nat} {x : Int} (hx : x = (what : Int)) (hc : c < 8) (h8 : what % 8 = 0) (hw : what < 416) (ho : 64 + 416 * c + what = o) : Calls Try.prog 162 #[.int .i64 (c : Int), .int .u64 x] w fun e w' => e = .returned (.int .u64 (o : Int)) ∧ w = w' := by
  subst hx
  exact rat_ok w hc h8 hw ho

set_option maxRecDepth 100000 in
set_option maxHeartbeats 1000000 in
theorem words_ok {S : Nat → Prop} {w : World} {A : Option Addr} {n c : Nat} {l : List (Nat × Nat)} (hc : c < 8) (hl : Puts S w A l) (hn : l.length ≤ 24) :
    Calls Try.prog 86 #[.int .i64 (c : Int), .slice A l.length n] w fun e w' => ∃ B m, e = .returned (.tuple #[.slice B (2 * l.length) m, .int .i64 0]) ∧ Row (fun b => w.heap.size ≤ b) w' B (2 * l.length) 2 (puts (logN c l l.length)) ∧ Grow w w' := by
  have ht := fun w => there w (c : Int)
  rw [decide_eq_true (show 0 ≤ (c : Int) ∧ (c : Int) < 8 by omega)] at ht
  have t1 : decide ((24 : Int) < l.length) = false := decide_eq_false (by omega)
  obtain ⟨i73, hi3, hz3, hs3, hb3⟩ := info_parts info73
  go_enter Try.func86, Try.ntmps86
  go_wp2_with fail
  refine (ht _).mono ?_
  rintro e w' ⟨rfl, rfl⟩
  clear ht
  go_wp2_with fail
  go_loopw [6, 20] (fun s i wr => ∃ k : Nat, k ≤ l.length ∧ i = .int .i64 (k : Int) ∧ Grow w wr ∧ wr.ownsRow w.heap.size 73 2 s (2 * k) (puts (logN c l k))) (fun _ i _ => l.length - (intOf i).toNat)
  case atStart => exact ⟨0, Nat.zero_le _, rfl, Below.refl _ _, World.ownsRow_nil _ _ _ _⟩
  case round =>
    obtain ⟨k, hk, rfl, hg, hown⟩ := hrel
    by_cases hlt : k < l.length
    · obtain ⟨b, o, rfl, _, hcell⟩ := (hl.grow hg).pos (by omega) (by omega)
      have hx := hcell _ _ (puts_get hlt).1
      have hy := hcell _ _ (puts_get hlt).2
      rw [← Nat.add_assoc] at hy
      have HS := Lib.hid (logN_succ c l k)
      have hln := logN_length c l k
      clear hcell hl
      generalize logN c l k = L at *
      generalize l.getD k (0, 0) = q at *
      obtain ⟨x, y⟩ := q
      simp only at hx hy
      have g0 : decide ((k : Int) < l.length) = true := decide_eq_true (by omega)
      have e2 : IntKind.u64.wrap (k : Int) = (k : Int) := by rw [IntKind.wrap_u64]; omega
      obtain ⟨a, ha⟩ : ∃ a, 64 + 416 * c + (32 + 16 * k) = a := ⟨_, rfl⟩
      have hab : a < 5000 := by omega
      have HA := Lib.hid ha
      clear ha
      have HLN := Lib.hid hln
      clear hln
      have hbase := hg.size
      go_wp2_with fail
      refine (atX (what := 32 + 16 * k) _ (by omega) hc (by omega) (by omega) HA.out).mono ?_
      rintro e w' ⟨rfl, rfl⟩
      have hga : Grow wr (wr.alloc (.cells #[.int .u64 (x : Int), .int .u64 (y : Int)] 73)) := (Below.refl _ _).alloc (Nat.le_refl _) _
      have hnew := World.alloc_heap_new wr (.cells #[.int .u64 (x : Int), .int .u64 (y : Int)] 73)
      have hown1 := own_grow hown hga
      have hg1 := hg.trans hga
      generalize wr.alloc (.cells #[.int .u64 (x : Int), .int .u64 (y : Int)] 73) = w1 at *
      have c0 : w1.cell? ⟨wr.heap.size, 0, none⟩ = some (.int .u64 (x : Int)) := by rw [cell_of_heap hnew]; rfl
      have c1 : w1.cell? ⟨wr.heap.size, 1, none⟩ = some (.int .u64 (y : Int)) := by rw [cell_of_heap hnew]; rfl
      have hbase1 := hg1.size
      clear hga hnew hown hg hx hy
      go_wp2_with (at_builtin; refine wpList_pushm 2 w1 rfl (.tmp 31) (.tmp 41) 64 rfl w.heap.size 73 i73 _ 2 16 Try.underlying64 hi3 hz3 hs3 hb3 rfl (by decide) u6 (2 * k) _ rfl hown1 #[.int .u64 (a : Int), .int .u64 (x : Int), .int .u64 ((a : Int) + 8), .int .u64 (y : Int)] rfl rfl (by simp [Value.oneCell']) rfl (by unfold maxLen; omega) (by omega) hbase1 ?_)
      intro v' w2 hown2 ho2
      obtain ⟨A', c', rfl⟩ : ∃ A c, v' = .slice A (2 * k + 2) c := by
        obtain ⟨g, c, _, e, _⟩ := own_form hown2 (by omega)
        exact ⟨_, c, e⟩
      have hg2 : Grow w w2 := grow_own hg1 hown1 ho2
      clear c0 c1 hown1 ho2 hg1
      go_wp2
      go_roundw
      case rel =>
        refine ⟨k + 1, by omega, by go_num, hg2, ?_⟩
        rw [HS.out, puts_append]
        have e1 : puts (logP c k (x, y)) = [.int .u64 (a : Int), .int .u64 (x : Int), .int .u64 ((a : Int) + 8), .int .u64 (y : Int)] := by
          unfold logP
          rw [HA.out, show 64 + 416 * c + (40 + 16 * k) = a + 8 from by have := HA.out; omega]
          simp [puts]
        rw [e1]
        exact hown2
      case measure => simp [intOf]; omega
    · obtain rfl : k = l.length := by omega
      have g0 : decide ((l.length : Int) < l.length) = false := decide_eq_false (by omega)
      obtain ⟨B, m, rfl, -, -, hr⟩ := Row.of_own hown
      clear hl hown
      go_wp2
      go_ret2
      exact ⟨B, m, rfl, hr, hg⟩
theorem words_bad (w : World) (A : Option Addr) (n m : Nat) (c : Int) (h : ¬ (0 ≤ c ∧ c < 8) ∨ 24 < n) (hn : n ≤ 9223372036854775807) :
    Calls Try.prog 86 #[.int .i64 c, .slice A n m] w fun e w' => e = .returned (.tuple #[.slice none 0 0, .int .i64 (if 0 ≤ c ∧ c < 8 then 9 else 1)]) ∧ w = w' := by
  have ht := there w c
  by_cases hc : 0 ≤ c ∧ c < 8
  · rw [if_pos hc]
    rw [decide_eq_true hc] at ht
    have t1 : decide ((24 : Int) < n) = true := decide_eq_true (by omega)
    clear hc h
    go_enter Try.func86, Try.ntmps86
    go_wp2_with fail
    refine ht.mono ?_
    rintro e w' ⟨rfl, rfl⟩
    clear ht
    go_wp2
    go_ret2
    exact ⟨rfl, rfl⟩
  · rw [if_neg hc]
    rw [decide_eq_false hc] at ht
    clear hc h
    go_enter Try.func86, Try.ntmps86
    go_wp2_with fail
    refine ht.mono ?_
    rintro e w' ⟨rfl, rfl⟩
    clear ht
    go_wp2
    go_ret2
    exact ⟨rfl, rfl⟩
end Go.Proofs.Ck
