/- Decode. -/
import Derived.Test.YtcoaopaiipkcpaaEnc
import Derived.Test.YtcoaopaiipkcpaaLen
namespace Go.Proofs.Ytcoaopaiipkcpaa
open Go.RowKit Rc

theorem Only3.own {T : TypeId} {c a vb g n m base : Nat} {W W' : World} {l : List Nat} (h : Only3 c a vb W W') (ho : OwnB T W base (.slice (some ⟨g, 0, none⟩) n m) l) (h1 : g ≠ c) (h2 : g ≠ a) (h3 : g ≠ vb) : OwnB T W' base (.slice (some ⟨g, 0, none⟩) n m) l := by
  refine ⟨ho.1, ?_⟩
  rcases ho.2 with ⟨hv, _⟩ | ⟨g', cap, cur, hv, hg, hh, r⟩
  · cases hv
  · have e : g = g' := by injection hv with e1; injection e1 with e1; injection e1
    subst e
    exact .inr ⟨g, cap, cur, hv, hg, (h.block g h1 h2 h3).trans hh, r⟩

theorem DecAt.far {a rb vb : Nat} {w0 W : World} {sl : Value} {l : List Nat} {j : Nat} (h : DecAt a rb vb w0 sl l j W) {p : Addr} (h1 : a ≠ p.block) (h2 : rb ≠ p.block) (h3 : vb ≠ p.block) (h4 : w0.heap.size ≤ p.block) (v : Value) : DecAt a rb vb w0 sl l j (W.setCell p v) :=
  ⟨h.at_.far h1 v, h.rest.far h2 v, h.value.far h3 v, h.below.setCell h4 v⟩

theorem OwnB.store {T : TypeId} {w : World} {base g n m : Nat} {l : List Nat} (h : OwnB T w base (.slice (some ⟨g, 0, none⟩) n m) l) (hn : n = l.length) (j x : Nat) : OwnB T (w.setCell ⟨g, j, none⟩ (.int .u8 (x : Int))) base (.slice (some ⟨g, 0, none⟩) n m) (l.set j x) := by
  subst hn
  have := (World.ownsRow.stored h j (.int .u8 (x : Int))).1
  unfold OwnB
  rw [u8s_set] at this
  rw [List.length_set]
  exact this
theorem OwnB.cell {T : TypeId} {w : World} {base g n m : Nat} {l : List Nat} (h : OwnB T w base (.slice (some ⟨g, 0, none⟩) n m) l) (hn : n = l.length) (j : Nat) (hj : j < n) : ∃ v, w.cell? ⟨g, j, none⟩ = some v ∧ w.frozen? ⟨g, j, none⟩ = false := by
  subst hn
  refine ⟨_, (World.ownsRow.cellAt h j (by omega)).trans (u8s_get l j hj), World.ownsRow.frozenAt h j⟩

theorem hDecOut {l rl DN : List Nat} {n : Nat} (h1 : DN = dec n rl) (h2 : n = (parse l).2.1) (h3 : rl = l.drop (parse l).2.2) : decOut l = DN := by
  rw [h1, h2, h3]; rfl

theorem encode_calls' (A : Option Addr) (N cap : Nat) (xs : List Nat) (w : World) (hN : N = xs.length) (hr : Reads w (.slice A N cap) (u8s xs)) (hx : ∀ x ∈ xs, x < 256) (hl : N ≤ 1000000) :
    Calls Try.prog 14 #[.slice A N cap] w fun e w' => ∃ v', e = .returned v' ∧ OwnB 5 w' w.heap.size v' (enc xs) ∧ Below w.heap.size w w' := by
  subst hN
  exact encode_calls A cap xs w hr hx hl

theorem decodeR_ok {l ds : List Nat} (h0 : (parse l).1 = 0) (h1 : decOut l = ds) (h2 : enc ds = l) : decodeR l = (0, ds) := by
  unfold decodeR
  rw [if_neg (by rw [h0]; simp), h1, if_pos h2]
theorem decodeR_form {l ds : List Nat} (h0 : (parse l).1 = 0) (h1 : decOut l = ds) (h2 : ¬ enc ds = l) : decodeR l = (8, []) := by
  unfold decodeR
  rw [if_neg (by rw [h0]; simp), h1, if_neg h2]

def decPost (w : World) (l : List Nat) (e : Ending) (w' : World) : Prop :=
  ∃ v', e = .returned (.tuple #[v', .int .i64 ((decodeR l).1 : Nat)]) ∧ OwnB 5 w' w.heap.size v' (decodeR l).2 ∧ Below w.heap.size w w'

theorem decPost_bad {w w' : World} {l : List Nat} (h : (parse l).1 ≠ 0) (hb : Below w.heap.size w w') : decPost w l (.returned (.tuple #[.slice none 0 0, .int .i64 ((parse l).1 : Nat)])) w' := by
  have hd : decodeR l = ((parse l).1, []) := if_pos h
  exact ⟨_, by rw [hd], by rw [hd]; exact OwnB.nil _ _, hb⟩

set_option maxHeartbeats 4000000 in
set_option maxRecDepth 100000 in
theorem decode_calls (v : Value) (l : List Nat) (w : World) (h : Reads w v (u8s l)) (hx : ∀ x ∈ l, x < 256) (hl : l.length ≤ 140737488355328) :
    Calls Try.prog 17 #[v] w (decPost w l) := by
  have h2 := h
  obtain ⟨A, cap, rfl, hcap, -⟩ := h
  simp only [u8s_length] at *
  go_enter Try.func17, Try.ntmps17
  go_wp2_with fail
  refine (length_calls _ l w h2 hx hl).mono ?_
  rintro e w1 ⟨rest, q1, rfl, hw1, hok, hbad⟩
  have hb1 : Below w.heap.size w w1 := by rw [hw1]; exact below_drewN (Below.refl _ _) q1
  have hs1 : w1.heap.size = w.heap.size := by rw [hw1]; rfl
  have hr1 : Reads w1 (.slice A l.length cap) (u8s l) := by rw [hw1]; exact h2
  have hok1 : (parse l).1 = 0 → Reads w1 rest (u8s (l.drop (parse l).2.2)) := by rw [hw1]; exact hok
  have HS1 := Lib.hid hs1
  clear hs1 hw1 hok
  by_cases he : (parse l).1 = 0
  · have hrest := hok1 he
    obtain ⟨A2, cap2, rfl, hcap2, -⟩ := id hrest
    have hn4 := parse_le he
    have he' : (((parse l).1 : Int) != 0) = false := by rw [he]; rfl
    obtain ⟨n, hn⟩ : ∃ n, n = (parse l).2.1 := ⟨_, rfl⟩
    rw [← hn] at hn4 ⊢
    obtain ⟨rl, hrl⟩ : ∃ rl, rl = l.drop (parse l).2.2 := ⟨_, rfl⟩
    rw [← hrl] at hrest hcap2 ⊢
    have hrx : ∀ x ∈ rl, x < 256 := fun x hx' => hx x (by rw [hrl] at hx'; exact List.mem_of_mem_drop hx')
    have hrll : rl.length ≤ 140737488355328 := by rw [hrl, List.length_drop]; omega
    rw [u8s_length] at hrest hcap2 ⊢
    have Hn := Lib.hid hn
    have HRL := Lib.hid hrl
    have HE := Lib.hid he
    have HC := Lib.hid hcap
    clear hn he hbad hrl hok1 hcap2 h2 hcap
    go_wp2_with fail
    obtain ⟨sl, hsl⟩ : ∃ sl, sl = Value.slice A2 rl.length cap2 := ⟨_, rfl⟩
    have hd0 : DecAt (w1.heap.size + 1 + 1) w1.heap.size (w1.heap.size + 1) w1 sl rl 0 (((w1.alloc (Obj.cells #[sl] 22)).alloc (Obj.cells #[Value.int IntKind.u32 0] 45)).alloc (Obj.cells #[Value.int IntKind.i64 0] 3)) := by
      have e1 : (w1.alloc (Obj.cells #[sl] 22)).heap.size = w1.heap.size + 1 := by simp
      have e2 : ((w1.alloc (Obj.cells #[sl] 22)).alloc (Obj.cells #[Value.int IntKind.u32 0] 45)).heap.size = w1.heap.size + 1 + 1 := by simp
      have k1 : Blk (w1.alloc (Obj.cells #[sl] 22)) w1.heap.size 22 #[sl] := heap_alloc_new w1 _
      have k2 : Blk ((w1.alloc (Obj.cells #[sl] 22)).alloc (Obj.cells #[Value.int IntKind.u32 0] 45)) (w1.heap.size + 1) 45 #[Value.int IntKind.u32 0] := by rw [← e1]; exact heap_alloc_new _ _
      have k3 : Blk (((w1.alloc (Obj.cells #[sl] 22)).alloc (Obj.cells #[Value.int IntKind.u32 0] 45)).alloc (Obj.cells #[Value.int IntKind.i64 0] 3)) (w1.heap.size + 1 + 1) 3 #[Value.int IntKind.i64 0] := by rw [← e2]; exact heap_alloc_new _ _
      exact ⟨k3, (k1.alloc _).alloc _, k2.alloc _, (((Below.refl _ _).alloc (Nat.le_refl _) _).alloc (by rw [e1]; omega) _).alloc (by rw [e2]; omega) _⟩
    rw [← hsl] at hrest ⊢
    generalize (((w1.alloc (Obj.cells #[sl] 22)).alloc (Obj.cells #[Value.int IntKind.u32 0] 45)).alloc (Obj.cells #[Value.int IntKind.i64 0] 3)) = w2 at *
    clear hsl
    go_loopg [26] 4 (fun m i wr => ∃ (k : Nat), k + m = 4 ∧ i = .int .i64 k ∧ DecAt (w1.heap.size + 1 + 1) w1.heap.size (w1.heap.size + 1) w1 sl rl k wr)
    case atStart => exact ⟨0, rfl, rfl, hd0⟩
    case round =>
      obtain ⟨k, hk, rfl, hd⟩ := hrel
      have HK := Lib.hid hk
      by_cases hlt : k < 4
      · clear hk
        go_wp2_with fail
        refine (next_calls _ _ _ w1 sl rl k 0 wr hd hrest hrx hrll (by omega) (by omega) (by omega)).mono ?_
        rintro e W' ⟨rfl, hd2, -⟩
        go_wp2_with fail
        have hk := HK.out
        go_roundg (gk - 1)
        case measure => omega
        case rel => exact ⟨k + 1, by omega, by go_num, hd2⟩
      · obtain rfl : k = 4 := by omega
        clear hk
        go_wp2_with fail
        refine (new_calls _ _ _).mono ?_
        rintro e w4 ⟨rfl, hc4, hB4⟩
        have hwr : w1.heap.size + 1 + 1 < wr.heap.size := hd.at_.lt
        have hd4 : DecAt (w1.heap.size + 1 + 1) w1.heap.size (w1.heap.size + 1) w1 sl rl 4 w4 := ⟨hd.at_.below hB4 hwr, hd.rest.below hB4 (by omega), hd.value.below hB4 (by omega), hd.below.trans (hB4.mono (by omega))⟩
        have hc4lt : wr.heap.size < w4.heap.size := Blk.lt hc4
        clear hd0 hd hB4
        generalize wr.heap.size = c at *
        go_wp2_with (at_make; refine wpList_makes elem_u8 rfl rfl (.tmp 33) (.tmp 33) rfl w1.heap.size .i64 .i64 (n : Int) (n : Int) n rfl rfl rfl rfl (by omega) (by omega) (by omega) ?_; intro w5 h5 h6)
        have hg : w4.heap.size ≠ c ∧ w4.heap.size ≠ w1.heap.size ∧ w4.heap.size ≠ w1.heap.size + 1 ∧ w4.heap.size ≠ w1.heap.size + 1 + 1 := by omega
        have hB5 : Below w4.heap.size w4 w5 := (Below.refl _ _).grown h6 (Nat.le_refl _) (fun k hk => by cases hk)
        have hd5 : DecAt (w1.heap.size + 1 + 1) w1.heap.size (w1.heap.size + 1) w1 sl rl 4 w5 := ⟨hd4.at_.below hB5 (by omega), hd4.rest.below hB5 (by omega), hd4.value.below hB5 (by omega), hd4.below.trans (hB5.mono (by omega))⟩
        have hc5 := Blk.below hc4 hB5 hc4lt
        have hO5 : OwnB 5 w5 w1.heap.size (.slice (some ⟨w4.heap.size, 0, none⟩) n n) ([] ++ List.replicate n 0) := by
          unfold OwnB
          have : (([] : List Nat) ++ List.replicate n 0).length = n := by simp
          rw [this]
          simpa [u8s] using h5
        have hw5 := hB5.size
        have hgw : w1.heap.size ≤ w4.heap.size := by omega
        clear hd4 hc4 h5 h6 hB5
        generalize w4.heap.size = g at *
        have hS := dec_shifts (w1.heap.size + 1 + 1) w1.heap.size (w1.heap.size + 1) c w1 sl rl hrest hrx hrll (by omega) (by omega) (by omega) (by omega) (by omega) (by omega)
        obtain ⟨DN, hDN⟩ : ∃ DN, DN = dec n rl := ⟨_, rfl⟩
        have HDN := Lib.hid hDN
        clear hDN
        go_wp2_with fail
        go_loopg [37] n (fun m i wr => ∃ (k : Nat) (s : St) (out ds : List Nat), k + m = n ∧ i = .int .i64 k ∧ ds.length = k ∧ s.Ok ∧ CoderAt 52 wr c s (.func (.func 28) #[] #[.pointer (some ⟨w1.heap.size + 1 + 1, 0, none⟩), .pointer (some ⟨w1.heap.size, 0, none⟩), .pointer (some ⟨w1.heap.size + 1, 0, none⟩)]) ∧ DecJ (w1.heap.size + 1 + 1) w1.heap.size (w1.heap.size + 1) c w1 sl rl out wr ∧ OwnB 5 wr w1.heap.size (.slice (some ⟨g, 0, none⟩) n n) (ds ++ List.replicate m 0) ∧ out.length ≤ 32 * k ∧ g < wr.heap.size ∧
          Hid (ds ++ decBytes (stream rl) m s out.length = DN))
        case atStart => exact ⟨0, St.init, [], [], by omega, rfl, rfl, St.init_ok, hc5, hd5, hO5, by simp, by have := hO5.lt g rfl; omega, Lib.hid (by rw [HDN.out]; rfl)⟩
        case round =>
          obtain ⟨k, s, out, ds, hkm, rfl, hdl, hs, hcr, hJ, hO, hol, hgl, H⟩ := hrel
          have HKM := Lib.hid hkm
          have HDL := Lib.hid hdl
          have hkn : k ≤ n := by omega
          by_cases hlt : k < n
          · obtain ⟨m, rfl⟩ : ∃ m, gk = m + 1 := ⟨gk - 1, by omega⟩
            clear hkm hdl
            go_wp2_with fail
            obtain ⟨wo, rfl⟩ : ∃ wo : World, wo = wr := ⟨_, rfl⟩
            go_loopg [13] 8 (fun q cx wr => ∃ (ctx : Nat) (s1 : St) (out1 : List Nat), cx = .int .i64 ctx ∧ CtxOk q ctx ∧ s1.Ok ∧ CoderAt 52 wr c s1 (.func (.func 28) #[] #[.pointer (some ⟨w1.heap.size + 1 + 1, 0, none⟩), .pointer (some ⟨w1.heap.size, 0, none⟩), .pointer (some ⟨w1.heap.size + 1, 0, none⟩)]) ∧ DecJ (w1.heap.size + 1 + 1) w1.heap.size (w1.heap.size + 1) c w1 sl rl out1 wr ∧ OwnB 5 wr w1.heap.size (.slice (some ⟨g, 0, none⟩) n n) (ds ++ List.replicate (m + 1) 0) ∧ out1.length + 4 * q ≤ out.length + 32 ∧ g < wr.heap.size ∧
              Hid (2 ^ (8 - q) ≤ ctx ∧ decBits (stream rl) q ctx s1 out1.length = decBits (stream rl) 8 1 s out.length))
            case atStart => exact ⟨1, s, out, rfl, CtxOk.init, hs, hcr, hJ, hO, by omega, hgl, by decide, rfl⟩
            case round =>
              obtain ⟨ctx, s1, out1, rfl, hctx, hs1, hc1, hJ1, hO1, hl1, hgl1, HB⟩ := hrel
              by_cases hz9 : gk = 0
              · subst hz9
                have h256 : 256 ≤ ctx := HB.out.1
                have HE2 := Lib.hid (HB.out.2.symm : decBits (stream rl) 8 1 s out.length = (ctx, s1, out1.length))
                have hlen : n = (ds ++ List.replicate (m + 1) 0).length := by have := HKM.out; have := HDL.out; simp; omega
                obtain ⟨v0, hcell, hfr⟩ := hO1.cell hlen k hlt
                have hst := hO1.store hlen k (ctx % 256)
                have HST := Lib.hid hst
                have HLEN := Lib.hid hlen
                have hc512 := hctx.lt'
                clear hst hlen
                go_wp2_with fail
                rw [show (ctx : Int) % 256 = ((ctx % 256 : Nat) : Int) from by omega]
                have hkm := HKM.out
                have hdl := HDL.out
                go_roundg m
                case measure => omega
                case rel =>
                  have hset := HST.out
                  rw [← hdl, set_next] at hset
                  rw [← hdl]
                  refine ⟨ds.length + 1, s1, out1, ds ++ [ctx % 256], by omega, by go_num, by simp, hs1, Blk.far hc1 (p := ⟨g, ds.length, none⟩) (Ne.symm hg.1) _, DecAt.far hJ1 (p := ⟨g, ds.length, none⟩) (Ne.symm hg.2.2.2) (Ne.symm hg.2.1) (Ne.symm hg.2.2.1) hgw _, hset, by omega, by simpa [World.setCell] using hgl1, ?_⟩
                  have := H.out
                  rw [decBytes_succ _ _ _ _ HE2.out] at this
                  simpa [Hid] using this
              · obtain ⟨j, rfl⟩ : ∃ j, gk = j + 1 := ⟨gk - 1, by omega⟩
                have hc256 := hctx.lt
                have hmid := St.mid_lt hs1 hc256
                have hcv := hJ1.value.cell 0
                have hvw : val (stream rl) (out1.length + 4) = win (stream rl) out1.length := val_win (stream_lt hrx) _
                rw [hvw] at hcv
                have hj8 : j + 1 ≤ 8 := hctx.2.2
                clear hvw hz9
                by_cases hbit : win (stream rl) out1.length ≤ s1.mid ctx
                · have hb : bitOf (stream rl) s1 ctx out1.length = 1 := if_pos hbit
                  have HBO := Lib.hid hb
                  have hle : (win (stream rl) out1.length : Int) ≤ s1.mid ctx := by omega
                  clear hb hbit
                  go_wp2_with fail
                  refine (split_calls c s1 hs1 _ ctx wr hc256 hc1).mono ?_
                  rintro e w5 ⟨rfl, nd, rfl⟩
                  go_wp2_with fail
                  refine (narrow_one c ctx s1 (s1.mid ctx) hs1 _ _ _ _ _ hS out1 (wr.drewN nd) hc256 hmid.1 hmid.2 (hc1.drewN nd) (hS.draw _ _ nd hJ1) (by omega)).mono ?_
                  rintro e w6 ⟨rfl, hJ6, hc6, hO6⟩
                  have hO7 := Only3.own hO6 (hO1.drewN nd) hg.1 hg.2.2.2 hg.2.2.1
                  have hgl6 : g < w6.heap.size := by rw [hO6.size]; exact hgl1
                  have hcp : (0 : Int) ≤ ctx := by omega
                  go_wp2_with fail
                  go_roundg j
                  case measure => omega
                  case rel => exact ⟨2 * ctx + 1, (s1.step ctx (s1.mid ctx) 1).2, out1 ++ (s1.step ctx (s1.mid ctx) 1).1, by go_num, hctx.next (by omega), hs1.step hc256 hmid.1 hmid.2, hc6, hJ6, hO7, by have := step_len s1 ctx (s1.mid ctx) 1; simp; omega, hgl6, ge_next hj8 HB.out.1, by rw [← HB.out.2, decBits_succ _ _ _ _ _ HBO.out, List.length_append]⟩
                · have hb : bitOf (stream rl) s1 ctx out1.length = 0 := if_neg hbit
                  have HBO := Lib.hid hb
                  have hle : ¬ (win (stream rl) out1.length : Int) ≤ s1.mid ctx := by omega
                  clear hb hbit
                  go_wp2_with fail
                  refine (split_calls c s1 hs1 _ ctx wr hc256 hc1).mono ?_
                  rintro e w5 ⟨rfl, nd, rfl⟩
                  go_wp2_with fail
                  refine (narrow_zero c ctx s1 (s1.mid ctx) hs1 _ _ _ _ _ hS out1 (wr.drewN nd) hc256 hmid.1 hmid.2 (hc1.drewN nd) (hS.draw _ _ nd hJ1) (by omega)).mono ?_
                  rintro e w6 ⟨rfl, hJ6, hc6, hO6⟩
                  have hO7 := Only3.own hO6 (hO1.drewN nd) hg.1 hg.2.2.2 hg.2.2.1
                  have hgl6 : g < w6.heap.size := by rw [hO6.size]; exact hgl1
                  have hcp : (0 : Int) ≤ ctx := by omega
                  go_wp2_with fail
                  go_roundg j
                  case measure => omega
                  case rel => exact ⟨2 * ctx + 0, (s1.step ctx (s1.mid ctx) 0).2, out1 ++ (s1.step ctx (s1.mid ctx) 0).1, by go_num, hctx.next (by omega), hs1.step hc256 hmid.1 hmid.2, hc6, hJ6, hO7, by have := step_len s1 ctx (s1.mid ctx) 0; simp; omega, hgl6, ge_next hj8 HB.out.1, by rw [← HB.out.2, decBits_succ _ _ _ _ _ HBO.out, List.length_append]⟩
          · obtain rfl : k = n := by omega
            obtain rfl : gk = 0 := by omega
            have hds := Lib.hid (by have h := H.out; rwa [decBytes_zero, List.append_nil] at h : ds = DN)
            have hod := Lib.hid (hDecOut HDN.out Hn.out HRL.out)
            simp only [List.replicate_zero, List.append_nil] at hO
            have hO0 : World.ownsRow wr w1.heap.size 5 1 (.slice (some ⟨g, 0, none⟩) k k) ds.length (u8s ds) := hO
            have hrO := Reads.of_own hO0
            have hdsx : ∀ x ∈ ds, x < 256 := by rw [hds.out, HDN.out]; exact decBytes_lt _ _ _ _
            have hsz := hJ.below.size
            have hJb := hJ.below
            clear hkm hdl hlt hO0
            go_wp2_with fail
            refine (encode_calls' _ k k ds wr HDL.out.symm hrO hdsx (by omega)).mono ?_
            rintro e w6 ⟨v6, rfl, ho6, hb6⟩
            have hr6 := Reads.of_own ho6
            have hbig : Below w1.heap.size w1 w6 := hJb.trans (hb6.mono hsz)
            have hra := hr1.below hbig
            have hO6 : OwnB 5 w6 w1.heap.size (.slice (some ⟨g, 0, none⟩) k k) ds := hO.below' hb6
            have hel : (enc ds).length ≤ 140737488355328 := by have := enc_len_le ds; have := HDL.out; omega
            have hBB : Below w.heap.size w w6 := hb1.trans (hbig.mono (by rw [HS1.out]; exact Nat.le_refl _))
            clear hcr hJ hO hrO hb6 ho6 hJb hbig
            go_wp2_with fail
            refine (equal_calls _ _ (enc ds) l w6 hr6 hra hel hl).mono ?_
            rintro e w7 ⟨rfl, q7, rfl⟩
            by_cases heq : enc ds = l
            · have hdec' : decide (enc ds = l) = true := decide_eq_true heq
              have hdr := Lib.hid (decodeR_ok HE.out (hod.out.trans hds.out.symm) heq)
              clear heq
              go_wp2_with fail
              go_ret2
              exact ⟨_, by rw [hdr.out]; rfl, by rw [hdr.out, ← HS1.out]; exact hO6.drewN q7, below_drewN hBB q7⟩
            · have hdec' : decide (enc ds = l) = false := decide_eq_false heq
              have hdr := Lib.hid (decodeR_form HE.out (hod.out.trans hds.out.symm) heq)
              clear heq
              go_wp2_with fail
              go_ret2
              exact ⟨_, by rw [hdr.out]; rfl, by rw [hdr.out]; exact OwnB.nil _ _, below_drewN hBB q7⟩
  · have hv := hbad he
    subst hv
    have he' : (((parse l).1 : Int) != 0) = true := by rw [bne_iff_ne]; omega
    have HE := Lib.hid he
    clear he hok1 hbad
    go_wp2_with fail
    go_ret2
    exact decPost_bad HE.out ((hb1.alloc (by rw [HS1.out]; exact Nat.le_refl _) _))
end Go.Proofs.Ytcoaopaiipkcpaa
