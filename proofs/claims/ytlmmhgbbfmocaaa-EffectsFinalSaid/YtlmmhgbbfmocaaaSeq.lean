/- A board under a sequence of calls: what Show and Confirm leave, whatever the tick; the effects' counts. -/
import Derived.Test.YtlmmhgbbfmocaaaMin
import Derived.StillTailTactics
namespace Go.Proofs.Ytlmmhgbbfmocaaa
open Go.RowKit

theorem Row.cl_at {w : World} {A : Option Addr} {n c : Nat} {l : List Cl} (h : Row clE w (.slice A n c) l) {k : Nat} (hk : k < l.length) :
    ∃ g o, A = some ⟨g, o, none⟩ ∧ g < w.heap.size ∧ w.cell? ⟨g, o + k * 3, none⟩ = some (.bool l[k].conf) ∧ w.cell? ⟨g, o + k * 3 + 1, none⟩ = some (.int .i64 l[k].tick) ∧ w.cell? ⟨g, o + k * 3 + 2, none⟩ = some l[k].s.v := by
  obtain ⟨g, o, hA, hg, hc⟩ := h.at_ hk
  exact ⟨g, o, hA, hg, hc 0 _ rfl, hc 1 _ rfl, hc 2 _ rfl⟩

/-- What a Show leaves. -/
structure Shown (W : List (Int × Ent)) (bd tick : Int) (l d1 d2 : List Eff) (W' : List (Int × Ent)) (n : Nat) (vc : Value) : Prop where
  num : n = if tick < bd then 20 else 0
  late : tick < bd → d1 = [] ∧ d2 = [] ∧ W' = W
  okk : bd ≤ tick → d1 = diff l (old tick W).2 ∧ d2 = diff (old tick W).2 l ∧ W' = mput tick (vc, l) W
def ShowPost (g m : Nat) (W : List (Int × Ent)) (bd tick : Int) (l : List Eff) (w : World) (e : Ending) (w' : World) : Prop :=
  ∃ A1 c1 d1 A2 c2 d2 n W' vc, e = .returned (.tuple #[.slice A1 d1.length c1, .slice A2 d2.length c2, .int .i64 (n : Nat)]) ∧ BoardAt w' g m W' bd ∧ Row effE w' (.slice A1 d1.length c1) d1 ∧ Row effE w' (.slice A2 d2.length c2) d2 ∧ Upd [m] w w' ∧ Shown W bd tick l d1 d2 W' n vc ∧ (∀ k, vc.ownBlock = some k → w.heap.size ≤ k) ∧ (∀ k, (Value.slice A1 d1.length c1).ownBlock = some k → w.heap.size ≤ k) ∧ (∀ k, (Value.slice A2 d2.length c2).ownBlock = some k → w.heap.size ≤ k)
theorem wrong_late {bd tick : Int} {l : List Eff} (h0 : 0 ≤ tick) (h1 : tick < 6000) (h2 : tick < bd) : wrong bd tick l = 20 := by
  unfold wrong
  rw [if_neg (by omega), if_pos h2]
theorem show_seq (g m : Nat) (W : List (Int × Ent)) (bd tick : Int) (v : Value) (l : List Eff) (w : World) (h : BoardAt w g m W bd) (hW : WOk W) (r : Row effE w v l) (ko : OkAll l) (h0 : 0 ≤ tick) (h1 : tick < 6000) (h2 : l.length ≤ 40) (h3 : ∀ x ∈ l, x.tick = tick) :
    Calls Try.prog 17 #[.pointer (some ⟨g, 0, none⟩), .int .i64 tick, v] w (ShowPost g m W bd tick l w) := by
  by_cases hb : tick < bd
  · have hw := wrong_late (l := l) h0 h1 hb
    refine (show_wrong g m W bd tick v l w h r ⟨by omega, by omega⟩ (by omega) (by rw [hw]; decide)).mono ?_
    rintro e w' ⟨rfl, b⟩
    rw [hw]
    exact ⟨none, 0, [], none, 0, [], 20, W, .slice none 0 0, rfl, h.below' b, Row.nil _, Row.nil _, (Upd.of_below b).mono (fun i hi => by cases hi), ⟨by rw [if_pos hb], fun _ => ⟨rfl, rfl, rfl⟩, fun hc => absurd hb (by omega)⟩, fun k hk => (by cases hk), fun k hk => (by cases hk), fun k hk => (by cases hk)⟩
  · have hw := wrong_ok (bd := bd) h0 h1 (by omega) h2 h3
    refine (show_named g m W bd tick v l _ _ w h hW r ko hw rfl rfl).mono ?_
    rintro e w' ⟨A1, c1, A2, c2, vc, B, rfl, hb', o1, o2, hB, hv, hu⟩
    exact ⟨A1, c1, _, A2, c2, _, 0, _, vc, rfl, hb', o1.row, o2.row, hu, ⟨by rw [if_neg hb], fun hc => absurd hc hb, fun _ => ⟨rfl, rfl, rfl⟩⟩, fun k hk => (hv k hk).1, fun k hk => Nat.le_trans hB (o1.ge k hk), fun k hk => Nat.le_trans hB (o2.ge k hk)⟩

/-- What a Confirm leaves. -/
structure Confd (W : List (Int × Ent)) (bd tick : Int) (q : List Eff) (W' : List (Int × Ent)) (bd' : Int) : Prop where
  late : tick ≤ bd → q = [] ∧ W' = W ∧ bd' = bd
  okk : bd < tick → q = takeL tick W ∧ W' = rest tick W ∧ bd' = tick
def ConfPost (g m : Nat) (W : List (Int × Ent)) (bd tick : Int) (w : World) (e : Ending) (w' : World) : Prop :=
  ∃ A c q W' bd', e = .returned (.slice A q.length c) ∧ BoardAt w' g m W' bd' ∧ Row effE w' (.slice A q.length c) q ∧ Upd [g, m] w w' ∧ Confd W bd tick q W' bd'
theorem confirm_seq (g m : Nat) (W : List (Int × Ent)) (bd tick : Int) (w : World) (h : BoardAt w g m W bd) (hW : WOk W) (ht : i64 tick) :
    Calls Try.prog 15 #[.pointer (some ⟨g, 0, none⟩), .int .i64 tick] w (ConfPost g m W bd tick w) := by
  by_cases hb : tick ≤ bd
  · refine (confirm_late g m W bd tick w h hb).mono ?_
    rintro e w' ⟨rfl, b⟩
    exact ⟨none, 0, [], W, bd, rfl, h.below' b, Row.nil _, (Upd.of_below b).mono (fun i hi => by cases hi), ⟨fun _ => ⟨rfl, rfl, rfl⟩, fun hc => absurd hb (by omega)⟩⟩
  · refine (confirm_calls g m W bd tick w h hW ht (by omega)).mono ?_
    rintro e w' ⟨v, rfl, o, k, u⟩
    obtain ⟨A, c, rfl, _⟩ := o.slice
    exact ⟨A, c, _, _, _, rfl, k, o.row, u, ⟨fun hc => absurd hc hb, fun _ => ⟨rfl, rfl, rfl⟩⟩⟩

/-! Counts. -/
theorem count_takeL_rest {c : Int} (hc : c ≤ 6000) (W : List (Int × Ent)) (x : Eff) : (takeL 6000 W).count x = (takeL c W).count x + (takeL 6000 (rest c W)).count x := by
  induction W with
  | nil => rfl
  | cons p W ih =>
    by_cases h : p.1 < c
    · have e : rest c (p :: W) = rest c W := by unfold rest; rw [List.filter_cons_of_neg (by simp [h])]
      rw [e]
      show (if p.1 < 6000 then _ else _ : List Eff).count x = (if p.1 < c then _ else _ : List Eff).count x + _
      rw [if_pos (by omega), if_pos h, List.count_append, List.count_append, ih]
      omega
    · have e : rest c (p :: W) = p :: rest c W := by unfold rest; rw [List.filter_cons_of_pos (by simp [h])]
      rw [e]
      show (if p.1 < 6000 then _ else _ : List Eff).count x = (if p.1 < c then _ else _ : List Eff).count x + (if p.1 < 6000 then _ else _ : List Eff).count x
      rw [if_neg h]
      by_cases h6 : p.1 < 6000
      · rw [if_pos h6, if_pos h6, List.count_append, List.count_append, ih]; omega
      · rw [if_neg h6, if_neg h6, ih]
theorem count_takeL_ins {lim : Int} (p : Int × Ent) (hp : p.1 < lim) (W : List (Int × Ent)) (x : Eff) : (takeL lim (ins p W)).count x = p.2.2.count x + (takeL lim W).count x := by
  induction W with
  | nil =>
    show (if p.1 < lim then _ else _ : List Eff).count x = _
    rw [if_pos hp, List.count_append]
  | cons q W ih =>
    unfold ins
    split
    · show (if p.1 < lim then _ else _ : List Eff).count x = _
      rw [if_pos hp, List.count_append]
    · show (if q.1 < lim then _ else _ : List Eff).count x = _ + (if q.1 < lim then _ else _ : List Eff).count x
      by_cases hq : q.1 < lim
      · rw [if_pos hq, if_pos hq, List.count_append, List.count_append, ih]; omega
      · rw [if_neg hq, if_neg hq, ih]
theorem count_takeL_old {lim t : Int} (ht : t < lim) {W : List (Int × Ent)} (hs : Sorted W) (x : Eff) : (takeL lim W).count x = (old t W).2.count x + (takeL lim (W.filter fun p => p.1 != t)).count x := by
  induction W with
  | nil => rfl
  | cons p W ih =>
    have hs2 : Sorted W := List.Pairwise.of_cons hs
    have hlt := (List.pairwise_cons.1 hs).1
    by_cases h : p.1 = t
    · have e : (W.filter fun p => p.1 != t) = W := List.filter_eq_self.2 (fun q hq => by have := hlt q hq; simp; omega)
      have e2 : (old t (p :: W)).2 = p.2.2 := by simp [old, mget, h]
      rw [List.filter_cons_of_neg (by simp [h]), e, e2]
      show (if p.1 < lim then _ else _ : List Eff).count x = _
      rw [if_pos (by omega), List.count_append]
    · have e2 : (old t (p :: W)) = old t W := by simp [old, mget, h]
      rw [List.filter_cons_of_pos (by simp [h]), e2]
      show (if p.1 < lim then _ else _ : List Eff).count x = _ + (if p.1 < lim then _ else _ : List Eff).count x
      by_cases hq : p.1 < lim
      · rw [if_pos hq, if_pos hq, List.count_append, List.count_append, ih hs2]; omega
      · rw [if_neg hq, if_neg hq, ih hs2]
theorem count_takeL_mput {lim t : Int} (ht : t < lim) {W : List (Int × Ent)} (hs : Sorted W) (e : Ent) (x : Eff) : (takeL lim (mput t e W)).count x + (old t W).2.count x = (takeL lim W).count x + e.2.count x := by
  unfold mput
  rw [count_takeL_ins (t, e) ht, count_takeL_old ht hs x]
  show e.2.count x + _ + _ = _ + _ + e.2.count x
  omega

/-- The bookkeeping of what was shown. -/
def Even (a b : List Eff) (W : List (Int × Ent)) : Prop := ∀ x, a.count x = b.count x + (takeL 6000 W).count x
theorem Even.show {a b : List Eff} {W W' : List (Int × Ent)} {bd tick : Int} {l d1 d2 : List Eff} {n : Nat} {vc : Value} (h : Even a b W) (hs : Sorted W) (h6 : tick < 6000) (s : Shown W bd tick l d1 d2 W' n vc) : Even (a ++ d1) (b ++ d2) W' := by
  intro x
  by_cases hb : tick < bd
  · obtain ⟨rfl, rfl, rfl⟩ := s.late hb
    rw [List.append_nil, List.append_nil]
    exact h x
  · obtain ⟨rfl, rfl, rfl⟩ := s.okk (by omega)
    have h1 := h x
    have h2 := count_takeL_mput h6 hs (vc, l) x
    have h3 := count_takeL_old h6 hs x
    rw [List.count_append, List.count_append, count_diff, count_diff]
    simp only at h2
    omega
theorem Even.conf {a b : List Eff} {W W' : List (Int × Ent)} {bd bd' tick : Int} {q : List Eff} (h : Even a b W) (h6 : tick < 6000) (s : Confd W bd tick q W' bd') : Even a (b ++ q) W' := by
  intro x
  by_cases hb : tick ≤ bd
  · obtain ⟨rfl, rfl, rfl⟩ := s.late hb
    rw [List.append_nil]
    exact h x
  · obtain ⟨rfl, rfl, -⟩ := s.okk (by omega)
    have h1 := h x
    have h2 := count_takeL_rest (c := tick) (by omega) W x
    rw [List.count_append]
    omega
theorem Even.len {a b : List Eff} {W : List (Int × Ent)} (h : Even a b W) : a.length = b.length + (takeL 6000 W).length := by
  have : a.Perm (b ++ takeL 6000 W) := List.perm_iff_count.2 (fun x => by rw [List.count_append]; exact h x)
  rw [this.length_eq, List.length_append]

/-- What every call keeps of the board's lists. -/
theorem Shown.wok {W W' : List (Int × Ent)} {bd tick : Int} {l d1 d2 : List Eff} {n : Nat} {vc : Value} (s : Shown W bd tick l d1 d2 W' n vc) (h : WOk W) (hl : W.length ≤ 900) (h1 : l.length ≤ 40) (h2 : OkAll l) (h3 : i64 tick) : WOk W' ∧ W'.length ≤ W.length + 1 := by
  by_cases hb : tick < bd
  · obtain ⟨_, _, rfl⟩ := s.late hb
    exact ⟨h, Nat.le_succ _⟩
  · obtain ⟨_, _, rfl⟩ := s.okk (by omega)
    exact ⟨h.put hl h1 h2 h3, length_mput _ _ _⟩
theorem Confd.wok {W W' : List (Int × Ent)} {bd bd' tick : Int} {q : List Eff} (s : Confd W bd tick q W' bd') (h : WOk W) : WOk W' ∧ W'.length ≤ W.length := by
  by_cases hb : tick ≤ bd
  · obtain ⟨_, rfl, _⟩ := s.late hb
    exact ⟨h, Nat.le_refl _⟩
  · obtain ⟨_, rfl, _⟩ := s.okk (by omega)
    have hl : (rest tick W).length ≤ W.length := List.length_filter_le _ _
    exact ⟨⟨Nat.le_trans hl h.len, fun p hp => h.each p (List.mem_filter.1 hp).1⟩, hl⟩
theorem Shown.len {W W' : List (Int × Ent)} {bd tick : Int} {l d1 d2 : List Eff} {n : Nat} {vc : Value} (s : Shown W bd tick l d1 d2 W' n vc) (h : WOk W) : d1.length ≤ l.length ∧ d2.length ≤ 40 := by
  by_cases hb : tick < bd
  · obtain ⟨rfl, rfl, _⟩ := s.late hb
    exact ⟨Nat.zero_le _, by simp⟩
  · obtain ⟨rfl, rfl, _⟩ := s.okk (by omega)
    refine ⟨diff_len _ _, Nat.le_trans (diff_len _ _) ?_⟩
    unfold old
    cases hg : mget tick W with
    | none => simp
    | some e => exact (h.each _ (mget_mem hg)).1
theorem Confd.len {W W' : List (Int × Ent)} {bd bd' tick : Int} {q : List Eff} (s : Confd W bd tick q W' bd') (h : WOk W) : q.length ≤ 40 * W.length := by
  by_cases hb : tick ≤ bd
  · obtain ⟨rfl, _, _⟩ := s.late hb
    exact Nat.zero_le _
  · obtain ⟨rfl, _, _⟩ := s.okk (by omega)
    exact takeL_len h

theorem BoardAt.grown {w w' : World} {g m : Nat} {W : List (Int × Ent)} {bd : Int} {r : Option Nat} (h : BoardAt w g m W bd) (hu : w.grownBy w' r) (hg : r ≠ some g) (hm : r ≠ some m) (hr : ∀ p ∈ W, ∀ k, p.2.1.ownBlock = some k → some k ≠ r) : BoardAt w' g m W bd :=
  h.upd (S := r.toList) (Upd.of_grown' hu (fun k hk => by simp [hk])) (fun hi => hg (by simpa using hi)) (fun hi => hm (by simpa using hi)) (fun p hp k hk hi => hr p hp k hk (Option.mem_toList.1 hi).symm)

/-- The two lists of EffectsExactlyOnce beside the board. -/
structure OnceAt (w2 w : World) (m M : Nat) (sh st : Value) (a b : List Eff) (W : List (Int × Ent)) (bd : Int) : Prop where
  shO : Own effE w M sh a
  stO : Own effE w M st b
  brd : BoardAt w (m + 1) m W bd
  upd : Upd [m + 1, m] w2 w
  ne : ∀ k, sh.ownBlock = some k → some k ≠ st.ownBlock
  apart : ∀ p ∈ W, ∀ k, p.2.1.ownBlock = some k → some k ≠ sh.ownBlock ∧ some k ≠ st.ownBlock
  size : M = w2.heap.size
  lt : m + 1 < M
theorem OnceAt.board {w2 w w' : World} {m M : Nat} {sh st : Value} {a b : List Eff} {W W' : List (Int × Ent)} {bd bd' : Int} {S : List Nat} (h : OnceAt w2 w m M sh st a b W bd) (k : BoardAt w' (m + 1) m W' bd') (u : Upd S w w') (hS : ∀ i ∈ S, i ∈ [m + 1, m])
    (hW : ∀ p ∈ W', p ∈ W ∨ ∀ k, p.2.1.ownBlock = some k → w.heap.size ≤ k) : OnceAt w2 w' m M sh st a b W' bd' := by
  have hl := h.lt
  have key : ∀ {v : Value} {l : List Eff}, Own effE w M v l → ∀ k, v.ownBlock = some k → k ∉ S := fun o k hk hi => by
    have := o.ge k hk
    have := hS k hi
    simp at this
    omega
  refine ⟨h.shO.upd u (key h.shO), h.stO.upd u (key h.stO), k, h.upd.trans' u (fun i hi => .inl (hS i hi)), h.ne, fun p hp j hj => ?_, h.size, h.lt⟩
  rcases hW p hp with h1 | h1
  · exact h.apart p h1 j hj
  · have h2 := h1 j hj
    exact ⟨fun e => by have := h.shO.lt j e.symm; omega, fun e => by have := h.stO.lt j e.symm; omega⟩
theorem OnceAt.pushSh {w2 w w' : World} {m M : Nat} {sh st sh' : Value} {a b a' : List Eff} {W : List (Int × Ent)} {bd : Int} (h : OnceAt w2 w m M sh st a b W bd) (o : Own effE w' M sh' a') (g : w.grownBy w' sh.ownBlock) (l : sh'.ownBlock = sh.ownBlock ∨ sh'.ownBlock = some w.heap.size) : OnceAt w2 w' m M sh' st a' b W bd := by
  have hl := h.lt
  have key : ∀ i, i < M → sh.ownBlock ≠ some i := fun i hi e => by have := h.shO.ge i e; omega
  refine ⟨o, h.stO.grown g (fun k hk e => h.ne k e.symm hk.symm), h.brd.grown g (key _ (by omega)) (key _ (by omega)) (fun p hp k hk => (h.apart p hp k hk).1), ?_, fun k hk e => ?_, fun p hp k hk => ⟨fun e => ?_, (h.apart p hp k hk).2⟩, h.size, h.lt⟩
  · exact h.upd.trans' (Upd.of_grown' (S := sh.ownBlock.toList) g (fun k hk => by simp [hk])) (fun i hi => .inr (by have := h.shO.ge i (by simpa using hi); have := h.size; omega))
  · rcases l with l | l
    · exact h.ne k (l ▸ hk) e
    · rw [l] at hk
      have := h.stO.lt k e.symm
      cases hk
      omega
  · rcases l with l | l
    · exact (h.apart p hp k hk).1 (l ▸ e)
    · rw [l] at e
      have := (h.brd.rows p hp).lt k hk
      cases e
      omega
theorem OnceAt.pushSt {w2 w w' : World} {m M : Nat} {sh st st' : Value} {a b b' : List Eff} {W : List (Int × Ent)} {bd : Int} (h : OnceAt w2 w m M sh st a b W bd) (o : Own effE w' M st' b') (g : w.grownBy w' st.ownBlock) (l : st'.ownBlock = st.ownBlock ∨ st'.ownBlock = some w.heap.size) : OnceAt w2 w' m M sh st' a b' W bd := by
  have hl := h.lt
  have key : ∀ i, i < M → st.ownBlock ≠ some i := fun i hi e => by have := h.stO.ge i e; omega
  refine ⟨h.shO.grown g h.ne, o, h.brd.grown g (key _ (by omega)) (key _ (by omega)) (fun p hp k hk => (h.apart p hp k hk).2), ?_, fun k hk e => ?_, fun p hp k hk => ⟨(h.apart p hp k hk).1, fun e => ?_⟩, h.size, h.lt⟩
  · exact h.upd.trans' (Upd.of_grown' (S := st.ownBlock.toList) g (fun k hk => by simp [hk])) (fun i hi => .inr (by have := h.stO.ge i (by simpa using hi); have := h.size; omega))
  · rcases l with l | l
    · exact h.ne k hk (l ▸ e)
    · rw [l] at e
      have := h.shO.lt k hk
      cases e
      omega
  · rcases l with l | l
    · exact (h.apart p hp k hk).2 (l ▸ e)
    · rw [l] at e
      have := (h.brd.rows p hp).lt k hk
      cases e
      omega
theorem OnceAt.new {w2 w w' : World} {m M : Nat} {sh st : Value} {a b : List Eff} {W : List (Int × Ent)} {bd : Int} (h : OnceAt w2 w m M sh st a b W bd) (hb : Below w.heap.size w w') : OnceAt w2 w' m M sh st a b W bd :=
  h.board (S := []) (h.brd.below' hb) (Upd.of_below hb) (fun i hi => by cases hi) (fun p hp => .inl hp)
theorem Shown.fresh {W W' : List (Int × Ent)} {bd tick : Int} {l d1 d2 : List Eff} {n : Nat} {vc : Value} {B : Nat} (s : Shown W bd tick l d1 d2 W' n vc) (hv : ∀ k, vc.ownBlock = some k → B ≤ k) : ∀ p ∈ W', p ∈ W ∨ ∀ k, p.2.1.ownBlock = some k → B ≤ k := by
  intro p hp
  by_cases hb : tick < bd
  · obtain ⟨_, _, rfl⟩ := s.late hb
    exact .inl hp
  · obtain ⟨_, _, rfl⟩ := s.okk (by omega)
    rcases (mem_mput _ _ _ _).1 hp with rfl | ⟨h, _⟩
    · exact .inr hv
    · exact .inl h
theorem Confd.kept {W W' : List (Int × Ent)} {bd bd' tick : Int} {q : List Eff} (s : Confd W bd tick q W' bd') : ∀ p ∈ W', p ∈ W := by
  intro p hp
  by_cases hb : tick ≤ bd
  · obtain ⟨_, rfl, _⟩ := s.late hb
    exact hp
  · obtain ⟨_, rfl, _⟩ := s.okk (by omega)
    exact (List.mem_filter.1 hp).1
end Go.Proofs.Ytlmmhgbbfmocaaa
