/- The ledger: lists of blocks, plainly. -/
import Derived.Test.YtpakfelekphbmaaLed1
namespace Go.Proofs.Ck
open Go Go.RowKit

/-- The words of blocks one behind the other: ahead of the first stands p, behind the last e. -/
def seg (f : Nat → Nat) : Nat → List Nat → Nat → Prop
  | _, [], _ => True
  | p, a :: r, e => f (a + 16) = r.headD e ∧ f (a + 24) = p ∧ seg f a r e
theorem seg_append {f : Nat → Nat} {p e : Nat} {xs ys : List Nat} : seg f p (xs ++ ys) e ↔ seg f p xs (ys.headD e) ∧ seg f (xs.getLastD p) ys e := by
  induction xs generalizing p with
  | nil => simp [seg]
  | cons a r ih =>
    have h1 : (r ++ ys).headD e = r.headD (ys.headD e) := by cases r <;> rfl
    have h2 : (a :: r).getLastD p = r.getLastD a := by cases r <;> rfl
    rw [List.cons_append]
    simp only [seg, h1, h2, ih]
    constructor
    · rintro ⟨a1, a2, a3, a4⟩; exact ⟨⟨a1, a2, a3⟩, a4⟩
    · rintro ⟨⟨a1, a2, a3⟩, a4⟩; exact ⟨a1, a2, a3, a4⟩
/-- A list's words hold of what is the same there. -/
theorem seg_congr {f g : Nat → Nat} {p e : Nat} {l : List Nat} (h : ∀ a ∈ l, g (a + 16) = f (a + 16) ∧ g (a + 24) = f (a + 24)) : seg f p l e → seg g p l e := by
  induction l generalizing p with
  | nil => exact fun _ => trivial
  | cons a r ih =>
    rintro ⟨h1, h2, h3⟩
    obtain ⟨e1, e2⟩ := h a (by simp)
    exact ⟨by rw [e1, h1], by rw [e2, h2], ih (fun b hb => h b (by simp [hb])) h3⟩

/-- A client's first block. -/
def hdO (c : Nat) : Nat := 64 + 416 * c + 8
/-- Is a client's list just these? -/
def Chk (f : Nat → Nat) (c : Nat) (l : List Nat) : Prop := f (hdO c) = l.headD 0 ∧ seg f 0 l 0

/-- Blocks that may be listed: apart from another, in the room. -/
structure Room (all : List Nat) : Prop where
  at_ : ∀ a ∈ all, a % 16 = 0 ∧ 3776 ≤ a ∧ a + 48 ≤ 4800
  apart : ∀ a ∈ all, ∀ b ∈ all, a ≠ b → a + 48 ≤ b ∨ b + 48 ≤ a

/-- Blocks come. -/
def linkF (f : Nat → Nat) (c off : Nat) : Nat → Nat :=
  upd (if f (hdO c) = 0 then upd (upd f (off + 16) (f (hdO c))) (off + 24) 0 else upd (upd (upd f (off + 16) (f (hdO c))) (off + 24) 0) (f (hdO c) + 24) off) (hdO c) off
/-- Blocks go. -/
def unlinkF (f : Nat → Nat) (c off : Nat) : Nat → Nat :=
  let g := if f (off + 16) = 0 then f else upd f (f (off + 16) + 24) (f (off + 24))
  if f (off + 24) = 0 then upd g (hdO c) (f (off + 16)) else upd g (f (off + 24) + 16) (f (off + 16))

/-- All clients' lists. -/
structure Lists (f : Nat → Nat) (all : List Nat) (L : Nat → List Nat) : Prop where
  chk : ∀ c, c < 8 → Chk f c (L c)
  sub : ∀ c, c < 8 → ∀ a ∈ L c, a ∈ all
  nodup : ∀ c, c < 8 → (L c).Nodup
  apart : ∀ c d, c < 8 → d < 8 → c ≠ d → ∀ a ∈ L c, a ∉ L d

theorem headD_mem {l : List Nat} {a : Nat} (h : l.headD 0 = a) (ha : a ≠ 0) : ∃ r, l = a :: r := by
  cases l with
  | nil => exact absurd h.symm ha
  | cons b r => exact ⟨r, by rw [← h]; rfl⟩

section
variable {f : Nat → Nat} {all : List Nat} {L : Nat → List Nat}
theorem Lists.head (h : Lists f all L) {c : Nat} (hc : c < 8) : f (hdO c) = (L c).headD 0 := (h.chk c hc).1
/-- What a block that comes turns: only its own words, its list's first block's, and the list's begin. -/
theorem link_other (hR : Room all) {c off : Nat} (_hoff : off ∈ all) {b : Nat} {r : List Nat} {l : List Nat} (hl : l = [] ∧ f (hdO c) = 0 ∨ l = b :: r ∧ f (hdO c) = b ∧ b ∈ all) (_hc : c < 8) {o : Nat}
    (h : o ≠ hdO c) (h1 : o ≠ off + 16) (h2 : o ≠ off + 24) (h3 : l = [] ∨ o ≠ b + 24) : linkF f c off o = f o := by
  unfold linkF
  rw [upd_ne h]
  rcases hl with ⟨e1, e2⟩ | ⟨e1, e2, e3⟩
  · rw [if_pos e2, upd_ne h2, upd_ne h1]
  · have hb := (hR.at_ b e3).2.1
    have h4 : o ≠ b + 24 := by
      rcases h3 with h3 | h3
      · rw [e1] at h3; cases h3
      · exact h3
    rw [if_neg (by omega), e2, upd_ne h4, upd_ne h2, upd_ne h1]

theorem Lists.link (h : Lists f all L) (hR : Room all) {c off : Nat} (hc : c < 8) (hoff : off ∈ all) (hno : ∀ d, d < 8 → off ∉ L d) :
    Lists (linkF f c off) all (fun d => if d = c then off :: L c else L d) ∧ ∀ a ∈ all, linkF f c off a = f a := by
  have ho := hR.at_ off hoff
  have hhd := h.head hc
  have hcl : (L c = [] ∧ f (hdO c) = 0) ∨ ∃ b r, L c = b :: r ∧ f (hdO c) = b ∧ b ∈ all := by
    cases hL : L c with
    | nil => exact .inl ⟨rfl, by rw [hhd, hL]; rfl⟩
    | cons b r => exact .inr ⟨b, r, rfl, by rw [hhd, hL]; rfl, h.sub c hc b (by rw [hL]; simp)⟩
  have oth : ∀ o, o ≠ hdO c → o ≠ off + 16 → o ≠ off + 24 → (∀ b r, L c = b :: r → o ≠ b + 24) → linkF f c off o = f o := by
    intro o h0 h1 h2 h3
    rcases hcl with ⟨e1, e2⟩ | ⟨b, r, e1, e2, e3⟩
    · exact link_other (b := 0) (r := []) hR hoff (.inl ⟨e1, e2⟩) hc h0 h1 h2 (.inl e1)
    · exact link_other hR hoff (.inr ⟨e1, e2, e3⟩) hc h0 h1 h2 (.inr (h3 b r e1))
  have hdl : ∀ d, d < 8 → hdO d < 3392 := fun d hd => by unfold hdO; omega
  have hhc := hdl c hc
  have mem : ∀ a ∈ all, a % 16 = 0 ∧ 3776 ≤ a ∧ a + 48 ≤ 4800 := hR.at_
  have far : ∀ a ∈ all, ∀ b ∈ all, a ≠ b → a + 48 ≤ b ∨ b + 48 ≤ a := hR.apart
  refine ⟨⟨?_, ?_, ?_, ?_⟩, ?_⟩
  · intro d hd
    by_cases hdc : d = c
    · subst hdc
      rw [if_pos rfl]
      refine ⟨?_, ?_, ?_, ?_⟩
      · unfold linkF; rw [upd_same]; rfl
      · -- next
        unfold linkF
        rw [upd_ne (by omega)]
        rcases hcl with ⟨e1, e2⟩ | ⟨b, r, e1, e2, e3⟩
        · rw [if_pos e2, upd_ne (by omega), upd_same, hhd]
        · have hb := mem b e3
          have hne : off ≠ b := fun e => hno d hc (by rw [e1, e]; simp)
          rw [if_neg (by omega), e2, upd_ne (by have := far off hoff b e3 hne; omega), upd_ne (by omega), upd_same, e1]
          rfl
      · unfold linkF
        rw [upd_ne (by omega)]
        rcases hcl with ⟨e1, e2⟩ | ⟨b, r, e1, e2, e3⟩
        · rw [if_pos e2, upd_same]
        · have hb := mem b e3
          have hne : off ≠ b := fun e => hno d hc (by rw [e1, e]; simp)
          rw [if_neg (by omega), e2, upd_ne (by have := far off hoff b e3 hne; omega), upd_same]
      · rcases hcl with ⟨e1, e2⟩ | ⟨b, r, e1, e2, e3⟩
        · rw [e1]; trivial
        · have hb := mem b e3
          have hne : off ≠ b := fun e => hno d hc (by rw [e1, e]; simp)
          have hs := (h.chk d hc).2
          have hnd := h.nodup d hc
          rw [e1] at hs hnd ⊢
          obtain ⟨s1, s2, s3⟩ := hs
          have hsub : ∀ a ∈ r, a ∈ all ∧ a ≠ b ∧ a ≠ off := fun a ha => ⟨h.sub d hc a (by rw [e1]; simp [ha]), fun e => (List.nodup_cons.1 hnd).1 (e ▸ ha), fun e => hno d hc (by rw [e1, ← e]; simp [ha])⟩
          refine ⟨?_, ?_, ?_⟩
          · rw [oth (b + 16) (by omega) (by have := far off hoff b e3 hne; omega) (by have := far off hoff b e3 hne; omega) (fun b' r' e => by rw [e1] at e; cases e; omega)]
            exact s1
          · unfold linkF
            rw [upd_ne (by omega), if_neg (by omega), e2, upd_same]
          · refine seg_congr (fun a ha => ?_) s3
            obtain ⟨m1, m2, m3⟩ := hsub a ha
            have := mem a m1
            have f1 := far a m1 b e3 m2
            have f2 := far a m1 off hoff m3
            constructor
            · exact oth _ (by omega) (by omega) (by omega) (fun b' r' e => by rw [e1] at e; cases e; omega)
            · exact oth _ (by omega) (by omega) (by omega) (fun b' r' e => by rw [e1] at e; cases e; omega)
    · rw [if_neg hdc]
      obtain ⟨k1, k2⟩ := h.chk d hd
      refine ⟨?_, seg_congr (fun a ha => ?_) k2⟩
      · have := hdl d hd
        rw [oth _ (by unfold hdO; omega) (by omega) (by omega) (fun b r e => by
          have := mem b (h.sub c hc b (by rw [e]; simp)); omega)]
        exact k1
      · have ma := h.sub d hd a ha
        have m := mem a ma
        have f2 := far a ma off hoff (fun e => hno d hd (e ▸ ha))
        have fb : ∀ b r, L c = b :: r → a + 48 ≤ b ∨ b + 48 ≤ a := fun b r e => far a ma b (h.sub c hc b (by rw [e]; simp)) (fun e' => h.apart d c hd hc hdc a ha (by rw [e, e']; simp))
        constructor
        · exact oth _ (by omega) (by omega) (by omega) (fun b r e => by have := fb b r e; omega)
        · exact oth _ (by omega) (by omega) (by omega) (fun b r e => by have := fb b r e; omega)
  · intro d hd a ha
    by_cases hdc : d = c
    · rw [if_pos hdc] at ha
      rcases List.mem_cons.1 ha with rfl | ha
      · exact hoff
      · exact h.sub c hc a ha
    · rw [if_neg hdc] at ha
      exact h.sub d hd a ha
  · intro d hd
    by_cases hdc : d = c
    · rw [if_pos hdc, List.nodup_cons]
      exact ⟨hno c hc, h.nodup c hc⟩
    · rw [if_neg hdc]; exact h.nodup d hd
  · intro d e hd he hde a ha
    by_cases hdc : d = c
    · rw [if_pos hdc] at ha
      rw [if_neg (by omega)]
      rcases List.mem_cons.1 ha with rfl | ha
      · exact hno e he
      · exact h.apart c e hc he (by omega) a ha
    · rw [if_neg hdc] at ha
      by_cases hec : e = c
      · rw [if_pos hec]
        intro hm
        rcases List.mem_cons.1 hm with rfl | hm
        · exact hno d hd ha
        · exact h.apart d c hd hc hdc a ha hm
      · rw [if_neg hec]
        exact h.apart d e hd he hde a ha
  · intro a ha
    have m := mem a ha
    refine oth a (by omega) ?_ (by omega) (fun b r e => ?_)
    · by_cases e : a = off
      · omega
      · have := far a ha off hoff e; omega
    · have mb := mem b (h.sub c hc b (by rw [e]; simp))
      omega

theorem Lists.unlink (h : Lists f all L) (hR : Room all) {c off : Nat} (hc : c < 8) (hin : off ∈ L c) :
    Lists (unlinkF f c off) all (fun d => if d = c then (L c).filter (· != off) else L d) ∧ ∀ a ∈ all, unlinkF f c off a = f a := by
  obtain ⟨xs, ys, hL⟩ := List.append_of_mem hin
  have hnd := h.nodup c hc
  rw [hL] at hnd
  have hsub := h.sub c hc
  have mem : ∀ a ∈ all, a % 16 = 0 ∧ 3776 ≤ a ∧ a + 48 ≤ 4800 := hR.at_
  have far : ∀ a ∈ all, ∀ b ∈ all, a ≠ b → a + 48 ≤ b ∨ b + 48 ≤ a := hR.apart
  have hoff : off ∈ all := hsub off hin
  have hhd := h.head hc
  have hdl : ∀ d, d < 8 → hdO d < 3392 := fun d hd => by unfold hdO; omega
  have hhc := hdl c hc
  have hxs : ∀ a ∈ xs, a ≠ off := fun a ha e => by
    rw [List.nodup_append] at hnd
    exact hnd.2.2 a ha off (by simp) e
  have hys : ∀ a ∈ ys, a ≠ off := fun a ha e => by
    rw [List.nodup_append, List.nodup_cons] at hnd
    exact hnd.2.1.1 (e ▸ ha)
  have hxy : ∀ a ∈ xs, ∀ b ∈ ys, a ≠ b := fun a ha b hb => by
    rw [List.nodup_append] at hnd
    exact hnd.2.2 a ha b (by simp [hb])
  have hfil : (L c).filter (· != off) = xs ++ ys := by
    rw [hL, List.filter_append, List.filter_cons]
    simp only [bne_self_eq_false, Bool.false_eq_true, if_false]
    rw [List.filter_eq_self.2 (fun a ha => by simpa using hxs a ha), List.filter_eq_self.2 (fun a ha => by simpa using hys a ha)]
  have hseg := (h.chk c hc).2
  rw [hL, seg_append] at hseg
  obtain ⟨sx, n1, a1, sy⟩ := hseg
  simp only [List.headD_cons] at sx
  -- next and ahead
  have hN : f (off + 16) = 0 ∧ ys = [] ∨ ∃ b r, ys = b :: r ∧ f (off + 16) = b ∧ b ∈ all ∧ b ∈ L c := by
    cases ys with
    | nil => exact .inl ⟨n1, rfl⟩
    | cons b r =>
      have hm : b ∈ L c := by rw [hL]; simp
      exact .inr ⟨b, r, rfl, n1, hsub b hm, hm⟩
  have hA : f (off + 24) = 0 ∧ xs = [] ∨ ∃ z a, xs = z ++ [a] ∧ f (off + 24) = a ∧ a ∈ all ∧ a ∈ L c := by
    rcases List.eq_nil_or_concat xs with e | ⟨z, a, e⟩
    · subst e; exact .inl ⟨a1, rfl⟩
    · rw [List.concat_eq_append] at e
      subst e
      have hm : a ∈ L c := by rw [hL]; simp
      refine .inr ⟨z, a, rfl, ?_, hsub a hm, hm⟩
      rw [a1]; simp
  have oth : ∀ o, o ≠ hdO c → (∀ b r, ys = b :: r → o ≠ b + 24) → (∀ z a, xs = z ++ [a] → o ≠ a + 16) → unlinkF f c off o = f o := by
    intro o h0 h1 h2
    have g0 : (if f (off + 16) = 0 then f else upd f (f (off + 16) + 24) (f (off + 24))) o = f o := by
      rcases hN with ⟨e1, _⟩ | ⟨b, r, e0, e1, e2, _⟩
      · rw [if_pos e1]
      · have := mem b e2
        rw [if_neg (by omega), upd_ne (by rw [e1]; exact h1 b r e0)]
    unfold unlinkF
    try simp only
    rcases hA with ⟨e1, _⟩ | ⟨z, a, e0, e1, e2, _⟩
    · rw [if_pos e1, upd_ne h0, g0]
    · have := mem a e2
      rw [if_neg (by omega), upd_ne (by rw [e1]; exact h2 z a e0), g0]
  have hsx : ∀ a ∈ xs, a ∈ all := fun a ha => hsub a (by rw [hL]; simp [ha])
  have hsy : ∀ a ∈ ys, a ∈ all := fun a ha => hsub a (by rw [hL]; simp [ha])
  refine ⟨⟨?_, ?_, ?_, ?_⟩, ?_⟩
  · intro d hd
    by_cases hdc : d = c
    · subst hdc
      rw [if_pos rfl, hfil]
      refine ⟨?_, ?_⟩
      · -- the begin
        rcases hA with ⟨e1, ex⟩ | ⟨z, a, e0, e1, e2, _⟩
        · subst ex
          unfold unlinkF
          try simp only
          rw [if_pos e1, upd_same, n1]
          rfl
        · have hne : hdO d ≠ a + 16 := by have := mem a e2; omega
          unfold unlinkF
          try simp only
          have := mem a e2
          rw [if_neg (by omega), e1, upd_ne hne]
          have g0 : (if f (off + 16) = 0 then f else upd f (f (off + 16) + 24) a) (hdO d) = f (hdO d) := by
            rcases hN with ⟨e3, _⟩ | ⟨b, r, e3, e4, e5, _⟩
            · rw [if_pos e3]
            · have := mem b e5
              rw [if_neg (by omega), upd_ne (by omega)]
          rw [g0, hhd, hL, e0]
          cases z <;> rfl
      · rw [seg_append]
        refine ⟨?_, ?_⟩
        · -- those ahead
          rcases List.eq_nil_or_concat xs with e | ⟨z, a, e⟩
          · rw [e]; trivial
          · rw [List.concat_eq_append] at e
            subst e
            rw [seg_append] at sx ⊢
            obtain ⟨sz, t1, t2, _⟩ := sx
            have ma := hsx a (by simp)
            have m := mem a ma
            simp only [List.headD_cons] at sz ⊢
            have ndx : (z ++ [a]).Nodup := (List.nodup_append.1 hnd).1
            have hza : ∀ x ∈ z, x ≠ a := fun x hx e => (List.nodup_append.1 ndx).2.2 x hx a (by simp) e
            refine ⟨seg_congr (fun x hx => ?_) sz, ?_, ?_, trivial⟩
            · have mx := hsx x (by simp [hx])
              have m1 := mem x mx
              have f1 := far x mx a ma (hza x hx)
              have fb : ∀ b r, ys = b :: r → x + 48 ≤ b ∨ b + 48 ≤ x := fun b r e => far x mx b (hsy b (by rw [e]; simp)) (hxy x (by simp [hx]) b (by rw [e]; simp))
              constructor
              · exact oth _ (by omega) (fun b r e => by have := fb b r e; omega) (fun z' a' e => by
                  have := List.append_inj_right' e rfl
                  cases this; omega)
              · exact oth _ (by omega) (fun b r e => by have := fb b r e; omega) (fun z' a' e => by
                  have := List.append_inj_right' e rfl
                  cases this; omega)
            · -- a's next is n
              have e1 : f (off + 24) = a := by rw [a1]; simp
              unfold unlinkF
              try simp only
              rw [if_neg (by omega), e1, upd_same, n1]
              rfl
            · have fb : ∀ b r, ys = b :: r → a + 48 ≤ b ∨ b + 48 ≤ a := fun b r e => far a ma b (hsy b (by rw [e]; simp)) (hxy a (by simp) b (by rw [e]; simp))
              rw [oth _ (by omega) (fun b r e => by have := fb b r e; omega) (fun z' a' e => by
                  have := List.append_inj_right' e rfl
                  cases this; omega)]
              exact t2
        · -- those behind
          cases ys with
          | nil => trivial
          | cons b r =>
            obtain ⟨t1, t2, t3⟩ := sy
            have mb := hsy b (by simp)
            have m := mem b mb
            have ndy : (b :: r).Nodup := (List.nodup_cons.1 (List.nodup_append.1 hnd).2.1).2
            refine ⟨?_, ?_, seg_congr (fun x hx => ?_) t3⟩
            · rw [oth _ (by omega) (fun b' r' e => by cases e; omega) (fun z a e => by
                have ha : a ∈ xs := by rw [e]; simp
                have := far b mb a (hsx a ha) (fun e' => hxy a ha b (by simp) e'.symm)
                omega)]
              exact t1
            · have e1 : f (off + 16) = b := n1
              unfold unlinkF
              try simp only
              have g0 : (if f (off + 16) = 0 then f else upd f (f (off + 16) + 24) (f (off + 24))) (b + 24) = f (off + 24) := by
                rw [if_neg (by omega), e1, upd_same]
              rcases hA with ⟨e2, ex⟩ | ⟨z, a, e0, e2, e3, _⟩
              · rw [if_pos e2, upd_ne (by omega), g0, a1]
              · have := mem a e3
                have ha : a ∈ xs := by rw [e0]; simp
                have hf := far b mb a e3 (fun e' => hxy a ha b (by simp) e'.symm)
                rw [if_neg (by omega), upd_ne (by rw [e2]; omega), g0, a1]
            · have mx := hsy x (by simp [hx])
              have m1 := mem x mx
              have hxb : x ≠ b := fun e => (List.nodup_cons.1 ndy).1 (e ▸ hx)
              have f1 := far x mx b mb hxb
              have fa : ∀ z a, xs = z ++ [a] → x + 48 ≤ a ∨ a + 48 ≤ x := fun z a e => far x mx a (hsx a (by rw [e]; simp)) (fun e' => hxy a (by rw [e]; simp) x (by simp [hx]) e'.symm)
              constructor
              · exact oth _ (by omega) (fun b' r' e => by cases e; omega) (fun z a e => by have := fa z a e; omega)
              · exact oth _ (by omega) (fun b' r' e => by cases e; omega) (fun z a e => by have := fa z a e; omega)
    · rw [if_neg hdc]
      obtain ⟨k1, k2⟩ := h.chk d hd
      refine ⟨?_, seg_congr (fun a ha => ?_) k2⟩
      · have := hdl d hd
        rw [oth _ (by unfold hdO; omega) (fun b r e => by have := mem b (hsy b (by rw [e]; simp)); omega) (fun z a e => by have := mem a (hsx a (by rw [e]; simp)); omega)]
        exact k1
      · have ma := h.sub d hd a ha
        have m := mem a ma
        have fb : ∀ b ∈ L c, a + 48 ≤ b ∨ b + 48 ≤ a := fun b hb => far a ma b (hsub b hb) (fun e' => h.apart d c hd hc hdc a ha (e' ▸ hb))
        constructor
        · exact oth _ (by omega) (fun b r e => by have := fb b (by rw [hL, e]; simp); omega) (fun z x e => by have := fb x (by rw [hL, e]; simp); omega)
        · exact oth _ (by omega) (fun b r e => by have := fb b (by rw [hL, e]; simp); omega) (fun z x e => by have := fb x (by rw [hL, e]; simp); omega)
  · intro d hd a ha
    by_cases hdc : d = c
    · rw [if_pos hdc] at ha
      exact hsub a (List.mem_filter.1 ha).1
    · rw [if_neg hdc] at ha
      exact h.sub d hd a ha
  · intro d hd
    by_cases hdc : d = c
    · rw [if_pos hdc]
      exact (h.nodup c hc).filter _
    · rw [if_neg hdc]; exact h.nodup d hd
  · intro d e hd he hde a ha
    by_cases hdc : d = c
    · rw [if_pos hdc] at ha
      rw [if_neg (by omega)]
      exact h.apart c e hc he (by omega) a (List.mem_filter.1 ha).1
    · rw [if_neg hdc] at ha
      by_cases hec : e = c
      · rw [if_pos hec]
        intro hm
        exact h.apart d c hd hc hdc a ha (List.mem_filter.1 hm).1
      · rw [if_neg hec]
        exact h.apart d e hd he hde a ha
  · intro a ha
    have m := mem a ha
    refine oth a (by omega) (fun b r e => ?_) (fun z x e => ?_)
    · have := mem b (hsy b (by rw [e]; simp)); omega
    · have mx := mem x (hsx x (by rw [e]; simp))
      by_cases e' : a = x
      · omega
      · have := far a ha x (hsx x (by rw [e]; simp)) e'; omega
end
end Go.Proofs.Ck
