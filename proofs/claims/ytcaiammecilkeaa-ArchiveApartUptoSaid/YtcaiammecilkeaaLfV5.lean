/-
  Contracts: events and histories as bytes (chapter 13).
-/
import Derived.Test.YtcaiammecilkeaaLfV4
set_option maxRecDepth 100000
set_option linter.unusedVariables false
set_option linter.unusedSimpArgs false
namespace Go.Lf.G
open Go

theorem wrapU {n : Int} (h0 : 0 ≤ n) (h1 : n ≤ 9223372036854775807) : IntKind.wrap .u64 n = ((n.toNat : Nat) : Int) := by
  have : n = ((n.toNat : Nat) : Int) := by omega
  rw [this, wrap_u64n (by omega)]
  simp
theorem optP_len {f : Bool} {n : Int} (h : n ≤ 9223372036854775807) : (optP f n).length ≤ 10 := by
  cases f with
  | false => exact Nat.zero_le _
  | true => exact putV_len10 (by omega)
theorem optPut_ok {A : Amb} {hh : Heap} {a : Addr} {f bit n : Int} {fl : Bool} {acc : List UInt8} {K : ByteArray × Unit → Heap → Prop} (hbit : (bAnd .i64 f bit != (0 : Int)) = fl) (hv : hget hh a = some (.int .i64 n)) (hn : fl = true → 0 ≤ n ∧ n ≤ 1099511627776)
    (hacc : acc.length ≤ 100000) (H : ∀ h', Ext hh h' → K (strL (acc ++ optP fl n), ()) h') :
    PIf (bAnd .i64 f bit != (0 : Int)) (LoadI .i64 hh a fun t => HCalls A P f_vary_Put #[.int .u64 (IntKind.wrap .u64 t)] hh fun v h' => ∃ x : ByteArray, v = .string x ∧ (Chk ((((strL acc).size + x.size : Nat) : Int) ≤ IntKind.i64.max) <| K ((strL acc) ++ x, ()) h')) (K (strL acc, ()) hh) := by
  rw [hbit]
  cases fl with
  | false =>
    have := H hh Mod.refl
    simp only [optP, Bool.false_eq_true, if_false, List.append_nil] at this
    exact PIf.no rfl this
  | true =>
    obtain ⟨h0, h1⟩ := hn rfl
    refine PIf.yes rfl (LoadI.mk hv ?_)
    rw [wrapU h0 (by omega)]
    have := putV_len10 (n := n.toNat) (by omega)
    refine vPut_ok (by omega) fun h' x => ⟨_, rfl, ⟨by rw [strL_size, strL_size, max_i64]; omega, ?_⟩⟩
    have := H h' x
    simp only [optP, if_true] at this
    rw [strL_app]
    exact this
theorem inE_pos {f : Bool} {n lo hi : Int} (h : inE f n lo hi = true) (h0 : 0 ≤ lo) (h1 : hi ≤ 1099511627776) : f = true → 0 ≤ n ∧ n ≤ 1099511627776 := fun hf => by
  subst hf
  simp only [inE, if_true, inI_iff] at h
  omega

def resEnc (e : Ev) : Value := .tuple #[.string (strL (if evOK e then encEv e else [])), .int .i64 (if evOK e then 0 else 120)]
theorem eEncode_ok {A : Amb} {h : Heap} {e : Ev} {R : Value → Heap → Prop} (hd : e.data.size < 1099511627776) (H : ∀ h', Ext h h' → R (resEnc e) h') : HCalls A P f_event_Encode #[evA e] h R := by
  refine ok_event_Encode ?_
  unfold F_event_Encode
  refine New.mk fun h1 _ hb x1 hs1 => ?_
  refine LoadI.mk (hget_lit hb rfl) (LoadI.mk (hget_lit1 hb rfl) (LoadI.mk (hget_lit1 hb rfl) (LoadI.mk (hget_lit1 hb rfl) (LoadI.mk (hget_lit1 hb rfl) (LoadI.mk (hget_lit1 hb rfl) (LoadB.mk (hget_lit1 hb rfl) (LoadS.mk (hget_lit1 hb rfl) ?_)))))))
  refine eCheck_ok (e := e) hd fun h2 x2 => ⟨_, rfl, ?_⟩
  cases hok : evOK e with
  | false =>
    refine PIf.yes rfl ?_
    have := H h2 (x1.trans x2)
    rw [resEnc, hok] at this
    exact this
  | true =>
    refine PIf.no rfl ?_
    have H2 : ∀ h', Ext h2 h' → R (.tuple #[.string (strL (encEv e)), .int .i64 0]) h' := fun h' x => by
      have := H h' ((x1.trans x2).trans x)
      rw [resEnc, hok] at this
      exact this
    have hb2 := x2.blk hb (fun h => h)
    have hh := evOK_head hok
    simp only [evHead, Bool.and_eq_true] at hh
    obtain ⟨⟨⟨⟨⟨⟨⟨hk, hid⟩, htk⟩, hr⟩, hs⟩, ht⟩, hu⟩, hx⟩ := hh
    have hk' := inI_iff.1 hk
    have hid' := inI_iff.1 hid
    have htk' := inI_iff.1 htk
    obtain ⟨n1, n2, n3, n4, n5⟩ := fN_bit e.kind
    refine LoadI.mk (hget_lit1 hb2 rfl) (efields_ok ⟨_, _, rfl, ?_⟩)
    refine LoadI.mk (hget_lit hb2 rfl) ?_
    rw [wrapU (n := e.id) (by omega) (by omega)]
    refine vPut_ok (by omega) fun h4 x4 => ⟨_, rfl, ?_⟩
    have hb4 := x4.blk hb2 (fun h => h)
    refine LoadI.mk (n := e.kind) (hget_lit1 hb4 rfl) ⟨hget_lit1 hb2 rfl, ?_⟩
    rw [wrapU (n := e.kind) (by omega) (by omega)]
    have l1 := putV_len10 (n := e.id.toNat) (by omega)
    have l2 := putV_len10 (n := e.kind.toNat) (by omega)
    have l3 := putV_len10 (n := e.tick.toNat) (by omega)
    refine vPut_ok (by omega) fun h5 x5 => ⟨_, rfl, ⟨by rw [strL_size, strL_size, max_i64]; omega, ?_⟩⟩
    have hb5 := x5.blk hb4 (fun h => h)
    refine LoadI.mk (n := e.tick) (hget_lit1 hb5 rfl) ⟨hget_lit1 hb4 rfl, hget_lit1 hb2 rfl, ?_⟩
    rw [wrapU (n := e.tick) (by omega) (by omega)]
    refine vPut_ok (by omega) fun h6 x6 => ⟨_, rfl, ⟨by rw [strL_app, strL_size, strL_size, max_i64, List.length_append]; omega, ?_⟩⟩
    have hb6 := x6.blk hb5 (fun h => h)
    have x26 := (x4.trans x5).trans x6
    rw [strL_app, strL_app]
    refine Join.mk fun K hK => ?_
    have l4 := optP_len (f := flR e.kind) (n := e.ref) (by cases hf : flR e.kind <;> rw [hf] at hr <;> simp [inE, inI] at hr <;> omega)
    have l5 := optP_len (f := flS e.kind) (n := e.step) (by cases hf : flS e.kind <;> rw [hf] at hs <;> simp [inE, inI] at hs <;> omega)
    have l6 := optP_len (f := flT e.kind) (n := e.turn) (by cases hf : flT e.kind <;> rw [hf] at ht <;> simp [inE, inI] at ht <;> omega)
    have l7 := optP_len (f := flU e.kind) (n := if e.undo then 1 else 0) (by split <;> omega)
    refine optPut_ok (fl := flR e.kind) (n := e.ref) (by rw [n1, nz_ite' (by decide)]) (hget_lit1 hb6 rfl) (inE_pos hr (by decide) (by omega)) (by simp only [List.length_append]; omega) fun h7 x7 => hK _ _ ?_
    have hb7 := x7.blk hb6 (fun h => h)
    refine Join.mk fun K1 hK1 => ?_
    refine optPut_ok (fl := flS e.kind) (n := e.step) (by rw [n2, nz_ite' (by decide)]) (hget_lit1 hb7 rfl) (inE_pos hs (by decide) (by omega)) (by simp only [List.length_append]; omega) fun h8 x8 => hK1 _ _ ?_
    have hb8 := x8.blk hb7 (fun h => h)
    refine Join.mk fun K2 hK2 => ?_
    refine optPut_ok (fl := flT e.kind) (n := e.turn) (by rw [n3, nz_ite' (by decide)]) (hget_lit1 hb8 rfl) (inE_pos ht (by decide) (by omega)) (by simp only [List.length_append]; omega) fun h9 x9 => hK2 _ _ ?_
    have hb9 := x9.blk hb8 (fun h => h)
    have x29 := ((x26.trans x7).trans x8).trans x9
    refine Join.mk fun K3 hK3 => ?_
    have hK3' : ∀ h10, Ext h9 h10 → K3 (strL (((putV e.id.toNat ++ putV e.kind.toNat ++ putV e.tick.toNat ++ optP (flR e.kind) e.ref) ++ optP (flS e.kind) e.step ++ optP (flT e.kind) e.turn) ++ optP (flU e.kind) (if e.undo then 1 else 0)), ()) h10 := fun h10 x10 => by
      refine hK3 _ _ ?_
      have hb10 := x10.blk hb9 (fun h => h)
      refine Join.mk fun K4 hK4 => ?_
      rw [n5, nz_ite' (by decide)]
      refine PIf.intro (fun q => ?_) (fun q => ?_)
      · refine LoadS.mk (hget_lit1 hb10 rfl) (vText_ok' (by omega) fun h11 x11 => ⟨_, rfl, ⟨?_, hK4 _ _ ?_⟩⟩)
        · have := putV_len10 (n := (bl e.data).length) (by rw [bl_size]; omega)
          rw [strL_size, strL_size, max_i64]
          simp only [textL, List.length_append, bl_size] at this ⊢
          omega
        · have := H2 h11 ((x29.trans x10).trans x11)
          dsimp only
          rw [strL_app]
          simp only [encEv, optT, q, if_true] at this
          simp only [List.append_assoc] at this ⊢
          exact this
      · refine hK4 _ _ ?_
        have := H2 h10 (x29.trans x10)
        simp only [encEv, optT, q, Bool.false_eq_true, if_false, List.append_nil] at this
        simp only [List.append_assoc] at this ⊢
        exact this
    rw [n4, nz_ite' (by decide)]
    refine PIf.intro (fun q => ?_) (fun q => ?_)
    · refine Join.mk fun K5 hK5 => LoadB.mk (hget_lit1 hb9 rfl) ?_
      have go : ∀ n : Nat, n ≤ 1 → (n : Int) = (if e.undo then 1 else 0) → K5 ((n : Int), ()) h9 := fun n hn he => by
        refine hK5 _ _ ?_
        have := putV_len10 (n := n) (by omega)
        refine vPut_ok (by omega) fun h10 x10 => ⟨_, rfl, ⟨?_, ?_⟩⟩
        · dsimp only
          rw [strL_size, strL_size, max_i64]
          simp only [List.length_append]
          omega
        · have := hK3' h10 x10
          rw [← he] at this
          simp only [optP, q, if_true, Int.toNat_natCast] at this
          dsimp only
          rw [strL_app]
          exact this
      refine PIf.intro (fun qu => go 1 (by omega) (by rw [qu]; rfl)) (fun qu => go 0 (by omega) (by rw [qu]; rfl))
    · have := hK3' h9 Mod.refl
      simp only [optP, q, Bool.false_eq_true, if_false, List.append_nil] at this
      exact this
end Go.Lf.G
