/-
 The law CasRefused (chapter 10) over its formula.
-/
import Derived.Test.YtdmlhpjdmgaggaaGreatDoorLfGLCasRefused
import Derived.Test.YtdmlhpjdmgaggaaGreatDoorLfQ12
set_option linter.unusedVariables false
set_option linter.unusedSimpArgs false
set_option maxRecDepth 100000
set_option linter.unusedVariables false
set_option linter.unusedSimpArgs false
namespace Go.Lf.G
open Go
open M (Sorted Ah Df BL Al BF CZ Au OkL Bo atK Br)
theorem AFx {m cl l : List Pr} : (doM m cl l).length ≤ m.length + 64 := by
 unfold doM
 split
 ·rename_i hz
  have hck : Bu l = 0 := Decidable.byContradiction fun hne => by
   unfold doC at hz
   split at hz
   ·exact absurd hz (by decide)
   ·exact hne hz
  have h1 := Vy l m
  have h2 := (KI hck).1.len
  omega
 ·omega
theorem AJA {m cl l : List Pr} (h : cl.all (Co m) = false) : doC m cl l ≠ 0 := by
 unfold doC
 split
 ·decide
 ·split
  ·assumption
  ·rw [h]; decide
theorem ACH {A : Amb} {B : Bud} {g h : Heap} {s bm : Nat} {q : Hp} {k : Nat → Nat} {st : Db} {m : Bx} {D : BK} {age c : Nat} {K : Unit → Heap → Prop} {first : Sl} {l : List Pr} (E : Evn g) (C : Ej B g h s q k st m D age c 0) (Mr : EG h k s bm ⟨none, 0, 0⟩ [] 0) (hg : g.size ≤ bm) (mp : BH st = []) (hA : age + 3 ≤ B.A) (hC : c + 64 ≤ B.C) (v : View Af g first l)
  (H : ∀ h' q' k' st' m' D' n' sm' n2, Ej B g h' s q' k' st' m' D' (age + 3) (c + 64) n' → n' ≤ 1 → EG h' k' s bm sm' (BH st') n2 → n2 ≤ 1 → (BH st').length ≤ 64 → K () h') :
  AA A P BN #[BC s, .slice none 0 0, .slice first.p first.len first.cap] h fun v12 h25 => ∃ t46 : Int, v12 = .int .i64 t46 ∧ (
      PIf (t46 == (0 : Int)) (
       AQ h25 (⟨bm, 0, none⟩ : Addr) fun t49_0 =>
       AZ .i64 h25 ((⟨bm, 0, none⟩ : Addr).add 1) fun t49_1 =>
       AA A P Bj #[.agg #[.slice t49_0.p t49_0.len t49_0.cap, .int .i64 t49_1], .slice none 0 0, .slice first.p first.len first.cap] h25 fun v13 h26 => ∃ t51a_0 : Sl, ∃ t51a_1 : Int, ∃ t51b : Int, v13 = .tuple #[.agg #[.slice t51a_0.p t51a_0.len t51a_0.cap, .int .i64 t51a_1], .int .i64 t51b] ∧ (
       Store h26 (⟨bm, 0, none⟩ : Addr) (.slice t51a_0.p t51a_0.len t51a_0.cap) fun h27 =>
       Store h27 ((⟨bm, 0, none⟩ : Addr).add 1) (.int .i64 t51a_1) fun h28 =>
       K () h28)) (
       K () h25)) := by
 have srt := C.db.sorted
 rw [mp] at srt
 refine ABP (B := B) (conds := ⟨none, 0, 0⟩) (cl := []) (sl := first) E C hA hC (by omega) View.nil (v.ext C.db.mem.ext) (C.args v) (fun x hx => by cases hx) fun h1 q1 k1 st1 m1 D1 n1 C1 hn1 _ mp1 md1 kk1 => ⟨_, rfl, ?_⟩
 rw [mp] at mp1
 have M1 := Mr.step (k' := k1) (s' := s) md1 (fun c hc => by
  rcases hc with h | h | h
  ·exact .inl h
  ·exact .inr (.inl h)
  ·exact .inr (.inr h)) kk1 (.inl rfl)
 have ln : (BH st1).length ≤ 64 := by
  have := AFx (m := []) (cl := []) (l := l)
  rw [mp1]; simpa using this
 have hs1 := C1.lt
 have hb1 := M1.lt
 refine PIf.intro (fun hz => ?_) (fun hz => ?_)
 ·refine AQ.mk (s := ⟨none, 0, 0⟩) (AJ M1.cell rfl) (AZ.mk (AB M1.cell rfl) ?_)
  refine AEU (s := ⟨none, 0, 0⟩) (conds := ⟨none, 0, 0⟩) (sl := first) (n := 0) (cl := []) M1.view (fun c hc => by simp [Sl.blk] at hc) View.nil (v.ext C1.db.mem.ext) srt (by simp) (by omega) fun s' h2 v2 b2 x2 => ⟨s', _, _, rfl, ?_⟩
  have M2 := M1.ext x2
  have C2 := C1.on x2
  have sz2 := x2.size
  simp only [Bw, Nat.zero_add]
  refine Store.mk M2.cell (by simp) fun h3 hb3 m3 s3 => Store.mk hb3 (by simp) fun h4 hb4 m4 s4 => ?_
  have hb4 : h4[bm]? = some (.cells #[.slice s'.p s'.len s'.cap, .int .i64 (doN [] [] l 0 : Int)] Ag (0, 0)) := by simpa using hb4
  have md := m3.trans m4
  have C4 := C2.beside md (fun c hc => by subst hc; exact ⟨M2.kz, hg⟩) (fun e => M2.ne e.symm)
  have hs' : ∀ c, s'.blk = some c → h1.size ≤ c ∧ c < h2.size := fun c hc => by
   rcases b2 c hc with h | h
   ·simp [Sl.blk] at h
   ·exact h
  refine H h4 q1 k1 st1 m1 D1 n1 s' (doN [] [] l 0) C4 (by omega) ⟨hb4, M2.kz, ?_, fun c hc => ?_, M2.ne⟩ (by unfold doN; split <;> omega) ln
  ·rw [mp1]
   exact v2.mod md fun c hc e => by have := (hs' c hc).1; omega
  ·have := hs' c hc
   have sz4 := md.size
   exact ⟨C1.db.free this.1, by omega, by omega, by omega⟩
 ·have hz : doC (BH st) [] l ≠ 0 := by simpa using hz
  rw [mp] at hz
  refine H h1 q1 k1 st1 m1 D1 n1 ⟨none, 0, 0⟩ 0 C1 (by omega) ?_ (by omega) ln
  rw [mp1, show doM [] [] l = [] from if_neg hz]
  exact M1
theorem AGl {x : Int} {n : Nat} (h0 : 0 < n) (h1 : n ≤ 1000) : ∃ j : Nat, j < n ∧ (IntKind.wrap .i64 ((x.tmod ((n : Nat) : Int)) + ((n : Nat) : Int))).tmod ((n : Nat) : Int) = (j : Int) := by
 have h2 : x.tmod (n : Int) < n := Int.tmod_lt_of_pos x (by omega)
 have h3 : -(n : Int) < x.tmod n := Int.lt_tmod_of_pos _ (by omega)
 rw [wrap_i64 (by omega) (by omega)]
 obtain ⟨y, hy⟩ : ∃ y : Nat, x.tmod (n : Int) + n = (y : Int) := ⟨(x.tmod (n : Int) + n).toNat, by omega⟩
 rw [hy, AER]
 exact ⟨y % n, Nat.mod_lt _ h0, rfl⟩
theorem AFU {l : List Pr} {f : Pr → Bool} {j : Nat} {y : Pr} (hj : j < l.length) (hy : f y = false) : (l.set j y).all f = false := by
 rw [List.all_eq_false]
 exact ⟨y, List.mem_set hj y, by rw [hy]; decide⟩
theorem Y0 {A : Amb} {h : Heap} {x0 x1 x2 : Sl} {x3 : Int} {first batch : List Pr} {keys : List ByteArray} {R : Value → Heap → Prop} (E : Evn h) (v0 : View Af h x0 first) (v1 : View EC h x1 keys) (v2 : View Af h x2 batch) (hk : ∀ k ∈ keys, k.size ≤ 1048576) (H : ∀ h', Ext h h' → R (.bool true) h') : AA A P Dc #[.agg #[.slice x0.p x0.len x0.cap, .slice x1.p x1.len x1.cap, .slice x2.p x2.len x2.cap, .int .i64 x3]] h R := by
 refine Kw ?_
 unfold EX
 refine New.mk fun ha _ hba xa sa => ?_
 refine AQ.mk (s := x0) (AJ hba rfl) (AQ.mk (s := x1) (AB hba rfl) (AQ.mk (s := x2) (AB hba rfl) (AZ.mk (AB hba rfl) ?_)))
 refine NF (E.ext xa) fun h1 xb => ⟨_, rfl, PIf.no rfl ?_⟩
 refine Pz fun b h2 Sb B2 xc f2 => ⟨_, rfl, ?_⟩
 have x02 := (xa.trans xb).trans xc
 have sz1 := (xa.trans xb).size
 refine ML (B := MH) E B2 x02 (fun c hc => by have := f2 c hc; omega) rfl rfl (fun n => rfl) (fun n => rfl) (fun x hx => absurd rfl hx) (by decide) (by decide) fun h3 s q3 k3 st3 m3 D3 eb3 C3 mp3 md3 kk3 hs => ⟨_, _, rfl, ?_⟩
 refine Join.mk fun K0 hK0 => PIf.no rfl (hK0 _ _ ?_)
 refine PIf.intro (fun hq => H h3 C3.db.mem.ext) (fun hq => ?_)
 have hkl : keys.length ≤ 60 := by
  have h1 := of_decide_eq_false hq
  rw [v1.len] at h1; omega
 have hg3 : h.size ≤ h3.size := C3.db.mem.ext.size
 have hs3 := C3.lt
 refine New.mk fun h4 _ hb4 x4 s4 => Join.mk fun K1 hK1 => ?_
 have M4 : EG h4 k3 s h3.size ⟨none, 0, 0⟩ [] 0 := ⟨hb4, C3.db.free (Nat.le_refl _), View.nil, fun c hc => by simp [Sl.blk] at hc, by omega⟩
 generalize hbm : h3.size = bm at *
 refine ACH (B := MH) (first := x0) E (C3.on x4) M4 hg3 mp3 (by decide) (by decide) v0 fun h7 q7 k7 st7 m7 D7 n7 sm n2 C7 hn7 M7 hn2 ln => hK1 _ _ ?_
 clear hK1 K1
 have srt := C7.db.sorted
 refine AQ.mk (s := sm) (AJ M7.cell rfl) (AZ.mk (AB M7.cell rfl) ?_)
 refine AHD (s := sm) (ks := x1) M7.view (v1.ext C7.db.mem.ext) srt (by omega) (by omega) fun sl h8 o8 b8 x8 => ⟨sl, rfl, ?_⟩
 have hnl : (JW (BH st7) keys).length = keys.length := by simp [JW]
 have hsl := o8.view.len
 have hkc : ∀ x ∈ JW (BH st7) keys, x.key.size ≤ 1099511627776 := fun x hx => by
  obtain ⟨k, hk1, rfl⟩ := List.mem_map.1 hx
  have := hk k hk1
  show k.size ≤ _
  omega
 have C8 := C7.on x8
 have M8 := M7.ext x8
 have hs7 := C7.lt
 have sz8 := x8.size
 have sz7 := C7.db.mem.ext.size
 refine Join.mk fun K2 hK2 => ?_
 have fin : ∀ h9, Ext h8 h9 → K2 () h9 := by
  intro h9 x9
  refine hK2 _ _ ?_
  have C9 := C8.on x9
  have M9 := M8.ext x9
  have v9 := o8.view.ext x9
  have hs9 := C9.lt
  refine AQ.mk (s := sm) (AJ M9.cell rfl) (AZ.mk (AB M9.cell rfl) ?_)
  refine AEU (s := sm) (conds := sl) (sl := x2) M9.view (fun c hc => (M9.blk c hc).2.1) v9 (v2.ext C9.db.mem.ext) srt (by omega) (by omega) fun s' h10 v10 b10 x10 => ⟨s', _, _, rfl, ?_⟩
  refine New.copy2 fun b2 h11 eb2 hb2 x11 s11 => ?_
  have C10 := C9.on x10
  have C11 := C10.on x11
  have sz10 := x10.size
  have sz11 := x11.size
  refine ABP (B := MH) (conds := sl) (sl := x2) E C11 (by decide) (by decide) (by omega) ((v9.ext x10).ext x11) (v2.ext C11.db.mem.ext) (C11.args v2) hkc fun h12 q12 k12 st12 m12 D12 n12 C12 _ _ mp12 md12 kk12 => ⟨_, rfl, ?_⟩
  have ln12 : (BH st12).length ≤ 128 := by
   rw [mp12]
   have := AFx (m := BH st7) (cl := JW (BH st7) keys) (l := batch)
   omega
  refine PE C12 (by decide) fun s3 h13 o13 b13 x13 => ⟨s3, _, rfl, ?_⟩
  rw [show (1000 : Int) = ((1000 : Nat) : Int) from rfl, Vv (by omega)] at o13
  refine PIf.yes (by simp) (PIf.yes rfl ?_)
  have kb2 : k7 b2 = 0 := by rw [eb2]; exact C10.db.free (Nat.le_refl _)
  have cb2 := Ab x13 (md12.blk hb2 (by
   rintro (h | h | h)
   ·exact h kb2
   ·omega
   ·omega))
  refine AQ.mk (s := s') (AJ cb2 rfl) ?_
  have v13 : View Af h13 s' (doM (BH st7) (JW (BH st7) keys) batch) := ((v10.ext x11).mod md12 fun c hc hm => by
   have : k7 c = 0 ∧ c < h11.size ∧ c ≠ s := by
    rcases b10 c hc with h | h
    ·obtain ⟨e1, e2, e3, e4⟩ := M9.blk c h
     exact ⟨e1, by omega, e4⟩
    ·exact ⟨C9.db.free h.1, by omega, by omega⟩
   rcases hm with h | h | h
   ·exact h this.1
   ·omega
   ·exact this.2.2 h).ext x13
  refine M.Vs o13.view v13 (by omega) ⟨_, rfl, ?_⟩
  rw [mp12, decide_eq_true rfl]
  exact H h13 (C12.on x13).db.mem.ext
 refine PIf.intro (fun hq => ?_) (fun hq => fin h8 Mod.refl)
 have hpos : 0 < sl.len := by have := of_decide_eq_true hq; omega
 obtain ⟨j, hj, ej⟩ := AGl (x := x3) hpos (by omega)
 refine ⟨by omega, ⟨by omega, ?_⟩⟩
 refine GZ (E := Af) (s := ⟨none, 0, 0⟩) (src := sl) M.G7 Own.nil o8.view (by simp only [List.length_nil]; omega) (by simp only [List.length_nil, maxLen]; omega) fun s4 h9 o9 m9 b9 _ => ?_
 rw [List.nil_append] at o9
 have b9' : ∀ c, s4.blk = some c → h8.size ≤ c := fun c hc => by
  rcases b9 c hc with h | h
  ·simp [Sl.blk] at h
  ·exact h
 have x9 : Ext h8 h9 := m9.weak fun c _ hc => by simp [Sl.blk] at hc
 have hget : (JW (BH st7) keys)[j]? = some (JW (BH st7) keys)[j] := List.getElem?_eq_getElem (by omega)
 have hmem : (JW (BH st7) keys)[j] ∈ JW (BH st7) keys := List.getElem_mem (by omega)
 have hx : ∃ key, (JW (BH st7) keys)[j] = ⟨key, (Fj (BH st7) key).1, !(Fj (BH st7) key).2⟩ := by
  obtain ⟨k, _, e⟩ := List.mem_map.1 hmem
  exact ⟨k, e.symm⟩
 have hkx := hkc _ hmem
 generalize (JW (BH st7) keys)[j] = x at *
 obtain ⟨key, ex⟩ := hx
 have bad : ∀ (K3 : Unit → Heap → Prop) (hh : Heap) (bl : List Pr), View Af hh s4 bl → Ext h8 hh → bl.all (Co (BH st7)) = false → (∀ y ∈ bl, y.key.size ≤ 1099511627776) →
   AA A P BN #[BC s, .slice s4.p s4.len s4.cap, .slice x2.p x2.len x2.cap] hh fun v9 h20 => ∃ t94 : Int, v9 = .int .i64 t94 ∧ (
           AA A P CY #[BC s, .string (⟨#[]⟩ : ByteArray), .string (⟨#[]⟩ : ByteArray), .int .i64 1000] h20 fun v10 h21 => ∃ t97a : Sl, ∃ t97b : Int, v10 = .tuple #[.slice t97a.p t97a.len t97a.cap, .int .i64 t97b] ∧ (
           Join (fun (r1 : Bool × Unit) h22 =>
             PIf r1.1 (
              R (.bool false) h22) (
              K2 () h22)) fun K4 =>
            PIf (t94 == (0 : Int)) (
             K4 (true, ()) h21) (
             PIf (t97b != (0 : Int)) (
              K4 (true, ()) h21) (
              AQ h21 (⟨bm, 0, none⟩ : Addr) fun t110 =>
              AA A P CR #[.slice t97a.p t97a.len t97a.cap, .slice t110.p t110.len t110.cap] h21 fun v11 h23 => ∃ t111 : Bool, v11 = .bool t111 ∧ (
              K4 ((!t111), ()) h23))))) := by
  intro K3 hh bl vb xh hall hkb
  have Ch := C8.on xh
  have hne := AJA (l := batch) hall
  refine WM (B := MH) (conds := s4) (sl := x2) E Ch (by decide) (by decide) (by omega) vb (v2.ext Ch.db.mem.ext) (Ch.args v2) hkb (fun _ h20 x20 => ⟨_, rfl, ?_⟩) fun hz => absurd hz hne
  refine PE (Ch.on x20) (by decide) fun s5 h21 o21 b21 x21 => ⟨s5, _, rfl, ?_⟩
  rw [show (1000 : Int) = ((1000 : Nat) : Int) from rfl, Vv (by omega)] at o21
  have x821 := (xh.trans x20).trans x21
  have M21 := M8.ext x821
  refine Join.mk fun K4 hK4 => PIf.no (by simpa using hne) (PIf.no rfl (AQ.mk (s := sm) (AJ M21.cell rfl) ?_))
  refine M.Vs o21.view M21.view (by omega) ⟨_, rfl, ?_⟩
  rw [decide_eq_true rfl]
  exact hK4 _ _ (PIf.no rfl (fin h21 x821))
 have hjl : j < (JW (BH st7) keys).length := by omega
 rw [ej]
 refine o9.view.idx hget fun a _ c0 => ?_
 obtain ⟨p0, p1, p2⟩ := c0.pair
 refine AY.mk p2 ?_
 refine o9.view.idx hget fun a1 ha1 _ => ?_
 refine Own.store (E := Af) (x' := ⟨x.key, x.val, !x.gone⟩) (j := 2) o9 hget rfl (by decide) (fun h10 o10 m10 s10 => ?_) a1 ha1
 have x10 : Ext h8 h10 := x9.then (m10.weak fun c _ hc => .inr (b9' c hc))
 have hget2 : ((JW (BH st7) keys).set j ⟨x.key, x.val, !x.gone⟩)[j]? = some ⟨x.key, x.val, !x.gone⟩ := by
  rw [List.getElem?_set_self hjl]
 have hk2 : ∀ y ∈ (JW (BH st7) keys).set j ⟨x.key, x.val, !x.gone⟩, y.key.size ≤ 1099511627776 := fun y hy => by
  rcases List.mem_or_eq_of_mem_set hy with h | rfl
  ·exact hkc y h
  ·exact hkx
 refine Join.mk fun K3 hK3 => ?_
 refine o10.view.idx hget2 fun a2 _ c2 => ?_
 obtain ⟨r0, r1, r2⟩ := c2.pair
 refine AY.mk r2 (PIf.intro (fun hg => ?_) (fun hg => ?_))
 ·refine o10.view.idx hget2 fun a3 ha3 _ => ?_
  refine Own.store (E := Af) (x' := ⟨x.key, ⟨#[]⟩, !x.gone⟩) (j := 1) o10 hget2 rfl (by decide) (fun h11 o11 m11 s11 => ?_) a3 ha3
  refine hK3 _ _ (bad K3 h11 _ o11.view (x10.then (m11.weak fun c _ hc => .inr (b9' c hc))) (AFU (by rw [List.length_set]; exact hjl) ?_) fun y hy => ?_)
  ·unfold Co
   rw [if_pos hg]
   rw [ex] at hg ⊢
   simpa using hg
  ·rcases List.mem_or_eq_of_mem_set hy with h | rfl
   ·exact hk2 y h
   ·exact hkx
 ·refine hK3 _ _ (bad K3 h10 _ o10.view x10 (AFU hjl ?_) hk2)
  unfold Co
  rw [if_neg (by rw [hg]; decide)]
  rw [ex] at hg ⊢
  have : (Fj (BH st7) key).2 = false := by simpa using hg
  rw [this]; rfl
end Go.Lf.G

