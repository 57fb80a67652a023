/- The ledger, as a law plays it: lists of blocks that were laid. -/
import Derived.Test.YtpakfelekphbmaaLaid
import Derived.Test.YtpakfelekphbmaaLink
import Derived.Test.YtpakfelekphbmaaList2
import Derived.Test.YtpakfelekphbmaaRchk
namespace Go.Proofs.Ck
open Go Go.RowKit

/-- What holds as long as blocks come and go. -/
structure Led (f : Nat → Nat) (all : List Nat) (L : Nat → List Nat) : Prop where
  lists : Lists f all L
  room : Room all
  size : f 16 = 4800

theorem pw_apart {l : List Nat} (h : l.Pairwise fun a b => a + 48 ≤ b) : ∀ a ∈ l, ∀ b ∈ l, a ≠ b → a + 48 ≤ b ∨ b + 48 ≤ a := by
  induction l with
  | nil => intro a ha; cases ha
  | cons x r ih =>
    rw [List.pairwise_cons] at h
    intro a ha b hb hab
    rcases List.mem_cons.1 ha with ea | ha'
    · rcases List.mem_cons.1 hb with eb | hb'
      · exact absurd (ea.trans eb.symm) hab
      · rw [ea]; exact .inl (h.1 b hb')
    · rcases List.mem_cons.1 hb with eb | hb'
      · rw [eb]; exact .inr (h.1 a ha')
      · exact ih h.2 a ha' b hb' hab
theorem room_of {f : Nat → Nat} {bl : List Blk} (h : Lie f 4800 3776 bl) : Room (bl.map Blk.off) := by
  have h1 := h.all
  have h2 := h.mod (by omega)
  have h3 := h.apart
  refine ⟨fun a ha => ?_, ?_⟩
  · obtain ⟨b, hb, rfl⟩ := List.mem_map.1 ha
    have k1 := h1 b hb
    have k2 := h2 b hb
    omega
  · have : (bl.map Blk.off).Pairwise fun a b => a + 48 ≤ b := by rw [List.pairwise_map]; exact h3
    exact pw_apart this
theorem all_nodup {f : Nat → Nat} {bl : List Blk} (h : Lie f 4800 3776 bl) : (bl.map Blk.off).Nodup := by
  have h3 : (bl.map Blk.off).Pairwise fun a b => a + 48 ≤ b := by rw [List.pairwise_map]; exact h.apart
  exact h3.imp fun hh e => by omega

section
variable {f : Nat → Nat} {all : List Nat} {L : Nat → List Nat}
theorem Led.mem (h : Led f all L) {c : Nat} (hc : c < 8) {a : Nat} (ha : a ∈ L c) : a % 16 = 0 ∧ 3776 ≤ a ∧ a + 48 ≤ 4800 := h.room.at_ a (h.lists.sub c hc a ha)
theorem Led.few (h : Led f all L) {c : Nat} (hc : c < 8) : (L c).length ≤ 100 := by
  have h1 : ((L c).map (· / 16)).Nodup := by
    rw [List.Nodup, List.pairwise_map]
    refine List.Pairwise.imp_of_mem ?_ (h.lists.nodup c hc)
    intro a b ha hb hab e
    have k1 := (h.mem hc ha).1
    have k2 := (h.mem hc hb).1
    omega
  have h2 : (((L c).map (· / 16)).map (· - 236)).Nodup := by
    rw [List.Nodup, List.pairwise_map]
    refine List.Pairwise.imp_of_mem ?_ h1
    intro a b ha hb hab e
    obtain ⟨x, hx, rfl⟩ := List.mem_map.1 ha
    obtain ⟨y, hy, rfl⟩ := List.mem_map.1 hb
    have k1 := h.mem hc hx
    have k2 := h.mem hc hy
    omega
  have := nodup_lt_length 64 _ h2 (fun x hx => by
    obtain ⟨y, hy, rfl⟩ := List.mem_map.1 hx
    obtain ⟨z, hz, rfl⟩ := List.mem_map.1 hy
    have := h.mem hc hz
    omega)
  rw [List.length_map, List.length_map] at this
  omega
theorem Led.head_ok (h : Led f all L) {c : Nat} (hc : c < 8) : f (hdO c) = 0 ∨ f (hdO c) ∈ L c := by
  rw [h.lists.head hc]
  cases L c with
  | nil => exact .inl rfl
  | cons a r => exact .inr (List.mem_cons_self ..)
theorem getD_mem0 (l : List Nat) (i : Nat) : l.getD i 0 = 0 ∨ l.getD i 0 ∈ l := by
  by_cases h : i < l.length
  · rw [List.getD_eq_getElem?_getD, List.getElem?_eq_getElem h]; exact .inr (List.getElem_mem _)
  · rw [List.getD_eq_getElem?_getD, List.getElem?_eq_none (by omega)]; exact .inl rfl
theorem Led.next_ok (h : Led f all L) {c off : Nat} (hc : c < 8) (hin : off ∈ L c) : (f (off + 16) = 0 ∨ f (off + 16) ∈ L c) ∧ (f (off + 24) = 0 ∨ f (off + 24) ∈ L c) := by
  obtain ⟨i, hi, rfl⟩ := List.getElem_of_mem hin
  have e : (L c)[i] = (L c).getD i 0 := by rw [List.getD_eq_getElem?_getD, List.getElem?_eq_getElem hi]; rfl
  obtain ⟨k1, k2⟩ := seg_get (h.lists.chk c hc).2 i hi
  rw [e, k1, k2]
  refine ⟨?_, ?_⟩
  · split
    · exact getD_mem0 _ _
    · exact .inl rfl
  · split
    · exact .inl rfl
    · exact getD_mem0 _ _
theorem Led.link (h : Led f all L) {c off : Nat} (hc : c < 8) (hoff : off ∈ all) (hno : ∀ d, d < 8 → off ∉ L d) : Led (linkF f c off) all (fun d => if d = c then off :: L c else L d) := by
  refine ⟨(h.lists.link h.room hc hoff hno).1, h.room, ?_⟩
  have h1 := (h.room.at_ off hoff).2.1
  unfold linkF hdO
  rw [upd_ne (by omega)]
  split
  · rw [upd_ne (by omega), upd_ne (by omega)]; exact h.size
  · next h0 =>
    rcases h.head_ok hc with h2 | h2
    · exact absurd h2 h0
    · have := (h.mem hc h2).2.1
      unfold hdO at this
      rw [upd_ne (by omega), upd_ne (by omega), upd_ne (by omega)]; exact h.size
theorem Led.unlink (h : Led f all L) {c off : Nat} (hc : c < 8) (hin : off ∈ L c) : Led (unlinkF f c off) all (fun d => if d = c then (L c).filter (· != off) else L d) := by
  refine ⟨(h.lists.unlink h.room hc hin).1, h.room, ?_⟩
  have h1 := (h.mem hc hin).2.1
  obtain ⟨k1, k2⟩ := h.next_ok hc hin
  have hg : (if f (off + 16) = 0 then f else upd f (f (off + 16) + 24) (f (off + 24))) 16 = 4800 := by
    split
    · exact h.size
    · next h0 =>
      rcases k1 with h2 | h2
      · exact absurd h2 h0
      · have := (h.mem hc h2).2.1
        rw [upd_ne (by omega)]; exact h.size
  unfold unlinkF hdO
  split
  · rw [upd_ne (by omega)]; exact hg
  · next h0 =>
    rcases k2 with h2 | h2
    · exact absurd h2 h0
    · have := (h.mem hc h2).2.1
      rw [upd_ne (by omega)]; exact hg
end
/-- What is laid: no lists yet. -/
theorem laid_led (l : List (Nat × Nat × Nat)) : Led (laidS l).load (atsL l) (fun _ => []) ∧ (atsL l) ≠ [] ∧ (atsL l).Nodup ∧ (atsL l).length ≤ 21 := by
  have hlie := lay_lie (l.take 20) ⟨fmtW 600 4800, []⟩ 3776 (fmtW_length _ _) (by omega) (by omega)
  have hne := layA_ne 4800 3776 (l.take 20)
  have hlen := layA_le (l.take 20) 3776
  unfold laidS atsL
  refine ⟨⟨lists_empty fun c hc => ?_, room_of hlie.1, ?_⟩, ?_, all_nodup hlie.1, ?_⟩
  · unfold hdO
    rw [hlie.2 _ (by omega)]
    exact fmt_load 4800 _ (by omega) (.inr (by omega)) (by omega)
  · rw [hlie.2 _ (by omega)]; exact fmt_E
  · intro h; exact hne (List.map_eq_nil_iff.1 h)
  · rw [List.length_map]
    have : (l.take 20).length ≤ 20 := by rw [List.length_take]; omega
    omega

section
variable {base : Nat} {M0 : Nat → Prop} {w0 w w' : World} {v : Value} {f : Nat → Nat} {all : List Nat} {Ls : Nat → List Nat} {bx : List Bx} {K : World → (Nat → Prop) → Prop}
theorem Law.linkL (L : Law base M0 w0 w v f bx K) (h : Led f all Ls) {c off : Nat} (hc : c < 8) (hoff : off ∈ all) :
    Calls Try.prog 115 #[v, .int .i64 (c : Int), .int .u64 (off : Int)] w fun e w' => e = .returned (.tuple #[]) ∧ Law base M0 w0 w' v (linkF f c off) bx K := by
  have h1 := h.room.at_ off hoff
  refine L.link hc (by omega) (by omega) ?_
  rcases h.head_ok hc with h2 | h2
  · exact .inl h2
  · have := h.mem hc h2; exact .inr (by omega)
theorem Law.unlinkL (L : Law base M0 w0 w v f bx K) (h : Led f all Ls) {c off : Nat} (hc : c < 8) (hin : off ∈ Ls c) :
    Calls Try.prog 116 #[v, .int .i64 (c : Int), .int .u64 (off : Int)] w fun e w' => e = .returned (.tuple #[]) ∧ Law base M0 w0 w' v (unlinkF f c off) bx K := by
  have h1 := h.mem hc hin
  obtain ⟨k1, k2⟩ := h.next_ok hc hin
  refine L.unlink hc (by omega) (by omega) ?_ ?_
  · rcases k1 with h2 | h2
    · exact .inl h2
    · have := h.mem hc h2; exact .inr (by omega)
  · rcases k2 with h2 | h2
    · exact .inl h2
    · have := h.mem hc h2; exact .inr (by omega)
theorem Law.listL (L : Law base M0 w0 w v f bx K) (h : Led f all Ls) {c n : Nat} {l : List Nat} (hc : c < 8) (hl : Ls c = l) (hn : l.length = n) :
    Calls Try.prog 113 #[v, .int .i64 (c : Int)] w fun e w' => ∃ A c', e = .returned (.slice A n c') ∧ Law base M0 w0 w' v f bx fun w X => Row (fun b => ¬ X b) w A n 1 (u64s l) ∧ K w X := by
  subst hl
  have hf := h.few hc
  exact L.rowOf (R := fun e A c' => e = .returned (.slice A n c')) (list_call L.any hc hn (h.lists.chk c hc) h.size (by omega) (by omega) (fun a ha => by have := h.mem hc ha; omega) (by omega))
theorem Law.checkL (L : Law base M0 w0 w v f bx K) (c : Int) {A : Option Addr} {n cA : Nat} {l : List Nat} {S : Nat → Prop} (hr : Row S w A n 1 (u64s l)) (hn : l.length = n) (hx : ∀ a ∈ l, a < 18446744073709551616) (hm : n ≤ 9223372036854775807) :
    Calls Try.prog 109 #[v, .int .i64 c, .slice A n cA] w fun e w' => e = .returned (.bool (chkB f c l)) ∧ Law base M0 w0 w' v f bx K :=
  L.read (check_call L.any c hn hr hx hm)
theorem Law.headL (L : Law base M0 w0 w v f bx K) {c x : Nat} (hc : c < 8) (h : f (hdO c) = x) :
    Calls Try.prog 102 #[v, .int .i64 (c : Int)] w fun e w' => e = .returned (.int .u64 (x : Int)) ∧ Law base M0 w0 w' v f bx K :=
  L.read (headIs L.any (getF_hd hc h))
end
end Go.Proofs.Ck
