/- Texts of this proof, merged: KpX, KpY, KpZ, KqA, LawKeyperNil. -/
import Derived.Test.YtnlmeaijnfjakaaKeyperNilP47
/- What a keyper has: told: walked. A nil keyper. -/
namespace Go.Proofs.Ytnlmeaijnfjakaa.Sh
open Go Go.RowKit

theorem neq_some8 (p : Addr) (n c : Nat) (w : World) : (binOp .neq 27 (.slice (some p) n c) (.slice none 0 0)).run Try.prog w = .ok (.bool true) w := by kernel_rfl
theorem neq_none8 (w : World) : (binOp .neq 27 (.slice none 0 0) (.slice none 0 0)).run Try.prog w = .ok (.bool false) w := by kernel_rfl

section
variable (W : World) (k : Nat) (rs : List (List UInt8)) (B : List Nat)
set_option maxRecDepth 20000 in
set_option maxHeartbeats 1600000 in
theorem mlen_any (h : KB W k rs B) :
    Calls Try.prog 18 #[.pointer (some ⟨k, 0, none⟩)] W fun e w' => e = .returned (.int .i64 ((openK rs).sh.length : Int)) ∧ w' = W := by
  obtain ⟨x, mb, ls, ss, hK, _⟩ := h
  have k1 := hK.c1
  have hlen := fun ty => hK.shs.len ty
  obtain ⟨n, hn⟩ : ∃ n, n = (openK rs).sh.length := ⟨_, rfl⟩
  rw [← hn] at hlen ⊢
  clear hn hK
  go_enter Try.func18, Try.ntmps18
  go_wp2
  go_ret
  exact ⟨rfl, rfl⟩

set_option maxRecDepth 20000 in
set_option maxHeartbeats 1600000 in
theorem mslot_any (h : KB W k rs B) :
    Calls Try.prog 24 #[.pointer (some ⟨k, 0, none⟩)] W fun e w' => e = .returned (.tuple #[.int .u64 ((openK rs).slot : Int), .bool (openK rs).told]) ∧ Only [] W w' := by
  obtain ⟨x, mb, ls, ss, hK, _⟩ := h
  have k3 := hK.c3.1
  have k4 := hK.c4.1
  obtain ⟨n, hn⟩ : ∃ n, n = (openK rs).slot := ⟨_, rfl⟩
  obtain ⟨t, ht⟩ : ∃ t, t = (openK rs).told := ⟨_, rfl⟩
  rw [← hn] at k3 ⊢
  rw [← ht] at k4 ⊢
  clear hn ht hK
  have od : Only [] W W.drew := (Only.refl [] W).drew
  go_enter Try.func24, Try.ntmps24
  go_wp2_with fail
  go_region_held3 (fun w' => w'.cell? ⟨k, 3, none⟩ = some (.int .u64 (n : Int)) ∧ w'.cell? ⟨k, 4, none⟩ = some (.bool t)) (exact ⟨k3, k4⟩) (fail)
  go_wp2
  go_ret2
  exact ⟨rfl, od⟩

set_option maxRecDepth 20000 in
set_option maxHeartbeats 1600000 in
theorem mdisk_any (h : KB W k rs B) (hf : (flatL rs).length ≤ 400000) :
    Calls Try.prog 19 #[.pointer (some ⟨k, 0, none⟩)] W fun e w' => ∃ fv lv, e = .returned (dskV fv lv) ∧ Fresh W w' fv (flatL rs) ∧ Fresh W w' lv [] ∧ Only [] W w' := by
  obtain ⟨x, mb, ls, ss, hK, _⟩ := h
  obtain ⟨w1, hw1⟩ : ∃ w1, w1 = W.alloc (Obj.cells #[.slice none 0 0, .slice none 0 0] 29) := ⟨_, rfl⟩
  have o1 : Only [] W w1 := by rw [hw1]; exact (Only.refl [] W).alloc _
  have hs1 : w1.heap.size = W.heap.size + 1 := by rw [hw1]; simp
  have r0 : w1.cell? ⟨W.heap.size, 0, none⟩ = some (.slice none 0 0) ∧ w1.frozen? ⟨W.heap.size, 0, none⟩ = false := by rw [hw1]; constructor <;> simp [go_sem]
  have r1 : w1.cell? ⟨W.heap.size, 1, none⟩ = some (.slice none 0 0) ∧ w1.frozen? ⟨W.heap.size, 1, none⟩ = false := by rw [hw1]; constructor <;> simp [go_sem]
  have k0 := hK.c0
  have hd := hid (ldisk_any w1 x _ [] rs ls (hK.log.kept0 o1) (by simp; omega))
  obtain ⟨F, hF⟩ : ∃ F, F = flatL rs := ⟨_, rfl⟩
  rw [← hF] at hd ⊢
  clear hK hF hf
  go_enter Try.func19, Try.ntmps19
  go_wp2_with fail
  rw [← hw1]
  clear hw1
  refine hd.out.mono ?_
  rintro e w2 ⟨fv, lv, rfl, hf2, hl2, q2⟩
  obtain ⟨va, vc, rfl⟩ := own_form hf2
  obtain ⟨ua, uc, rfl⟩ := own_form hl2
  obtain ⟨p0, p1⟩ := cell_kept q2 (by simp) r0
  obtain ⟨p2, p3⟩ := cell_kept q2 (by simp) r1
  have hO : Only [W.heap.size] w2 ((w2.setCell ⟨W.heap.size, 0, none⟩ (.slice va F.length vc)).setCell ⟨W.heap.size, 1, none⟩ (.slice ua 0 uc)) := ((Only.refl _ w2).setCell (.inl (by simp)) _).setCell (.inl (by simp)) _
  have g2 := hid (own_lower (own_only hf2 hO (fun k hk => by have := (hf2.lt k hk).1; simp; omega)) (show W.heap.size ≤ w1.heap.size by omega))
  have g3 := hid (own_lower (own_only hl2 hO (fun k hk => by have := (hl2.lt k hk).1; simp; omega)) (show W.heap.size ≤ w1.heap.size by omega))
  have hfin := (o1.trans0 q2).trans hO (ds := []) (by simp) (by simp)
  clear hO hf2 hl2 hd
  go_wp2
  exact bodyPost_ret (v := dskV (.slice va F.length vc) (.slice ua 0 uc)) (by simp [results, Try.results19, go_sem, p0, p2]) rfl ⟨_, _, rfl, g2.out, g3.out, hfin⟩

set_option maxRecDepth 20000 in
set_option maxHeartbeats 1600000 in
theorem mhas_any (h : KB W k rs B) (d : List UInt8) (hd : d.length = 32) :
    Calls Try.prog 12 #[.pointer (some ⟨k, 0, none⟩), vD d] W fun e w' => e = .returned (.bool (getS (openK rs).sh d).isSome) ∧ Only [] W w' := by
  obtain ⟨x, mb, ls, ss, hK, _⟩ := h
  have hD := Dv.boxed W d hd 35
  obtain ⟨w1, hw1⟩ : ∃ w1, w1 = W.alloc (Obj.cells (bytes d).toArray 35) := ⟨_, rfl⟩
  have o1 : Only [] W w1 := by rw [hw1]; exact (Only.refl [] W).alloc _
  rw [← hw1] at hD
  obtain ⟨g, hg⟩ : ∃ g, g = W.heap.size := ⟨_, rfl⟩
  rw [← hg] at hD
  have hrg := hD.range
  have hu := Try.underlying35
  have hin : (Try.prog.info? 35).map (·.size) = some (bytes d).length := by rw [dig_info]; simp [bytes, hd]
  have k1 := (hK.kept0 o1).c1
  have od : Only [] w1 w1.drew := (Only.refl [] w1).drew
  have HO := hid (o1.trans0 od)
  have hn8 := neq_none8
  have hs8 := neq_some8
  have hpn : ∀ (w : World), (binOp .neq 25 (.pointer (some ⟨k, 0, none⟩)) (.pointer none)).run Try.prog w = .ok (.bool true) w := fun w => by kernel_rfl
  rw [show vD d = .agg (bytes d).toArray from rfl]
  cases hgs : getS (openK rs).sh d with
  | none =>
    have lk := hid (show (Instr.lookup 75 (.map (some mb)) (.agg (bytes d).toArray) false).run Try.prog w1.drew = .ok (.slice none 0 0) w1.drew from ((hK.kept0 o1).shs.kept0 od).look_none hd hgs false)
    clear hgs hK hd
    go_enter Try.func12, Try.ntmps12
    go_wp2_with fail
    rw [← hw1, ← hg]
    clear hw1 hg
    go_region_held3 (fun V => V.cell? ⟨k, 1, none⟩ = some (.map (some mb)) ∧ V.rangeAt g 0 (bytes d) ∧ (Instr.lookup 75 (.map (some mb)) (.agg (bytes d).toArray) false).run Try.prog V = .ok (.slice none 0 0) V) (exact ⟨k1, hrg, lk.out⟩) (fail)
    go_wp2
    go_ret
    exact ⟨rfl, HO.out⟩
  | some t =>
    obtain ⟨v, hY, hlk⟩ := (hK.kept0 o1).shs.look_some (open_inv rs).keys hd hgs
    have ht : 1 ≤ t.length := ((open_inv rs).len _ (getS_some hgs)).2.1
    obtain ⟨b, o, c, rfl, _⟩ := hY.1.form (by omega)
    have lk := hid (show (Instr.lookup 75 (.map (some mb)) (.agg (bytes d).toArray) false).run Try.prog w1.drew = .ok (.slice (some ⟨b, o, none⟩) t.length c) w1.drew from hlk _ od false)
    obtain ⟨n, hn⟩ : ∃ n, n = t.length := ⟨_, rfl⟩
    rw [← hn] at lk
    clear hgs hK hd hY hlk hn ht
    go_enter Try.func12, Try.ntmps12
    go_wp2_with fail
    rw [← hw1, ← hg]
    clear hw1 hg
    go_region_held3 (fun V => V.cell? ⟨k, 1, none⟩ = some (.map (some mb)) ∧ V.rangeAt g 0 (bytes d) ∧ (Instr.lookup 75 (.map (some mb)) (.agg (bytes d).toArray) false).run Try.prog V = .ok (.slice (some ⟨b, o, none⟩) n c) V) (exact ⟨k1, hrg, lk.out⟩) (fail)
    go_wp2
    go_ret
    exact ⟨rfl, HO.out⟩
end

/-! a nil keyper -/
section
variable (w : World)
theorem nil_len : Calls Try.prog 18 #[.pointer none] w fun e w' => e = .returned (.int .i64 0) ∧ w' = w := by
  go_enter Try.func18, Try.ntmps18
  go_wp2
  go_ret
  exact ⟨rfl, rfl⟩
theorem nil_slot : Calls Try.prog 24 #[.pointer none] w fun e w' => e = .returned (.tuple #[.int .u64 0, .bool false]) ∧ w' = w := by
  go_enter Try.func24, Try.ntmps24
  go_wp2
  go_ret2
  exact ⟨rfl, rfl⟩
set_option maxRecDepth 20000 in
theorem nil_disk : Calls Try.prog 19 #[.pointer none] w fun e w' => e = .returned (dskV (.slice none 0 0) (.slice none 0 0)) ∧ Only [] w w' := by
  have HO := hid ((Only.refl [] w).alloc (Obj.cells #[.slice none 0 0, .slice none 0 0] 29))
  go_enter Try.func19, Try.ntmps19
  go_wp2
  exact bodyPost_ret (v := dskV (.slice none 0 0) (.slice none 0 0)) (by simp [results, Try.results19, go_sem]) rfl ⟨rfl, HO.out⟩
set_option maxRecDepth 20000 in
theorem nil_has (d : List UInt8) (hd : d.length = 32) : Calls Try.prog 12 #[.pointer none, vD d] w fun e w' => e = .returned (.bool false) ∧ Only [] w w' := by
  have hD := Dv.boxed w d hd 35
  have HO := hid ((Only.refl [] w).alloc (Obj.cells (bytes d).toArray 35))
  rw [show vD d = .agg (bytes d).toArray from rfl]
  go_enter Try.func12, Try.ntmps12
  go_wp2_with fail
  have hpn : ∀ (w : World), (binOp .neq 25 (.pointer none) (.pointer none)).run Try.prog w = .ok (.bool false) w := fun w => by kernel_rfl
  go_quiet (fail)
  go_wp2
  go_ret
  exact ⟨rfl, HO.out.trans0 (only_drewN _ _ _)⟩
theorem nil_forget (v : Value) : Calls Try.prog 17 #[.pointer none, v] w fun e w' => e = .returned (.tuple #[.int .i64 0, .int .i64 1]) ∧ w' = w := by
  go_enter Try.func17, Try.ntmps17
  go_wp2
  go_ret2
  exact ⟨rfl, rfl⟩
theorem nil_commit (s : Int) (v : Value) : Calls Try.prog 15 #[.pointer none, .int .u64 s, v] w fun e w' => e = .returned (.tuple #[.slice none 0 0, .int .i64 1]) ∧ w' = w := by
  go_enter Try.func15, Try.ntmps15
  go_wp2
  go_ret2
  exact ⟨rfl, rfl⟩
set_option maxRecDepth 20000 in
theorem nil_keep (d : List UInt8) (hd : d.length = 32) (v : Value) : Calls Try.prog 14 #[.pointer none, vD d, v] w fun e w' => e = .returned (.int .i64 1) ∧ Only [] w w' := by
  have HO := hid ((Only.refl [] w).alloc (Obj.cells (bytes d).toArray 35))
  rw [show vD d = .agg (bytes d).toArray from rfl]
  go_enter Try.func14, Try.ntmps14
  go_wp2
  go_ret
  exact ⟨rfl, HO.out⟩
end
end Go.Proofs.Ytnlmeaijnfjakaa.Sh
/- The law's names; its limits; awake: walked. -/
namespace Go.Proofs.Ytnlmeaijnfjakaa.Sh
open Go Go.RowKit

/-- The name of a byte. -/
def nm (b : UInt8) : List UInt8 := b :: (List.replicate 30 0 ++ [1])
theorem nm_len (b : UInt8) : (nm b).length = 32 := by simp [nm]
theorem nm_inj {a b : UInt8} (h : nm a = nm b) : a = b := by
  simp only [nm, List.cons.injEq] at h
  exact h.1
theorem nms_inj : ∀ {a b : List UInt8}, a.map nm = b.map nm → a = b
  | [], [], _ => rfl
  | [], _ :: _, h => by simp at h
  | _ :: _, [], h => by simp at h
  | x :: a, y :: b, h => by
    simp only [List.map_cons, List.cons.injEq] at h
    rw [nm_inj h.1, nms_inj h.2]

theorem wpList_build2 {P : Program} {ops : Array Oper} {rest : List Oper} {o : Oper} {a : Act} {Q : Exit → Act → World → Prop} {w : World} (hgd : o.guard = none) (t : TypeId) (x y : Operand) (ho : o.op = .build t #[(0, x), (31, y)]) {u v r : Value} (hx : a.eval x = u) (hy : a.eval y = v)
    (hr : (Instr.build t #[(0, u), (31, v)]).run P w = .ok r w) (h : wpList P ops Q rest (a.put o.dst r) w) : wpList P ops Q (o :: rest) a w := by
  refine wpList_plain hgd fun K hK => ?_
  unfold Oper.wp execOp
  simp only [ho, hx, hy, hr, List.map_toArray, List.map_cons, List.map_nil, Sem.run_bind, Sem.run_pure, Result.andThen_ok]
  exact hK _ _ h
theorem build_nm (b : UInt8) (w : World) : (Instr.build 35 #[(0, vU8 b), (31, .int .u8 1)]).run Try.prog w = .ok (.agg (bytes (nm b)).toArray) w := by kernel_rfl

set_option maxRecDepth 20000 in
set_option maxHeartbeats 1600000 in
theorem name_any (w : World) (b : UInt8) :
    Calls Try.prog 13 #[vU8 b] w fun e w' => e = .returned (vD (nm b)) ∧ Only [] w w' := by
  go_enter Try.func13, Try.ntmps13
  go_wp2_with (first
    | (refine wpList_alloc_run (by rfl) 35 (by rfl) (alloc_dig _) ?_)
    | (refine wpList_build2 (by rfl) 35 _ _ (by rfl) (by rfl) (by rfl) (build_nm b _) ?_)
    | (refine wpList_store_dig (by rfl) _ _ (by rfl) w.heap.size (nm b) _ (by rfl) (by rfl) rfl (nm_len b) (Dv.fresh w 35).there ?_; intro w2 hD2 hp2))
  refine bodyPost_ret (results_dig rfl _ _ rfl hD2) rfl ?_
  exact ⟨rfl, ((Only.refl [] w).alloc _).trans hp2 (by simp) (by simp)⟩
end Go.Proofs.Ytnlmeaijnfjakaa.Sh
/- The law's names, made: walked. A keyper that is newer than a world; each call on it. -/
namespace Go.Proofs.Ytnlmeaijnfjakaa.Sh
open Go Go.RowKit

set_option maxRecDepth 20000 in
set_option maxHeartbeats 1600000 in
theorem names_any (w : World) (v : Value) (l : List UInt8) (hv : Bs w v l) (hl : l.length ≤ 1000) :
    Calls Try.prog 16 #[v] w fun e w' => ∃ u, e = .returned u ∧ OwnD w.heap.size w' u (l.map nm) ∧ Only [] w w' := by
  obtain ⟨a, cap, rfl⟩ := bs_form hv
  go_enter Try.func16, Try.ntmps16
  go_wp2_with fail
  go_loopw [3, 7] (fun ov i wr => ∃ (j : Nat), j ≤ l.length ∧ i = .int .i64 j ∧ OwnD w.heap.size wr ov ((l.take j).map nm) ∧ Only [] w wr) (fun _ i _ => l.length - (intOf i).toNat)
  case atStart => exact ⟨0, Nat.zero_le _, rfl, ⟨World.ownsRow_nil _ _ _ _, by simp⟩, Only.refl _ _⟩
  case round =>
    obtain ⟨j, hj, rfl, hown, ho⟩ := hrel
    obtain ⟨oa, oc, rfl⟩ := own_form hown.1
    have s2 := ho.size
    by_cases hlt : j < l.length
    · obtain ⟨b, o, rfl, hc⟩ := (hv.kept0 ho).at j hlt
      have hts : (l.take (j + 1)).map nm = (l.take j).map nm ++ [nm l[j]] := by rw [List.take_succ_eq_append_getElem hlt, List.map_append]; rfl
      obtain ⟨x, hx⟩ : ∃ x, x = l[j] := ⟨_, rfl⟩
      rw [← hx] at hc hts
      obtain ⟨ids, hids⟩ : ∃ ids, ids = (l.take j).map nm := ⟨_, rfl⟩
      have hil : ids.length = j := by rw [hids]; simp; omega
      rw [← hids] at hown hts
      rw [← hids, hil]
      have hid1 := hid hil
      have HTS := hid hts
      have HN := hid hown
      have hna := hid (name_any wr x)
      clear hx hids hts hil hown
      go_wp2_with fail
      refine hna.out.mono ?_
      rintro e w3 ⟨rfl, q3⟩
      have own3 := HN.out.only q3 (by simp)
      have s3 := q3.size
      have hl32 := nm_len x
      obtain ⟨d, hd⟩ : ∃ d, d = nm x := ⟨_, rfl⟩
      rw [← hd] at hl32 ⊢
      have HD := hid hd
      have own3j := hid own3.1
      have own3k : w3.ownsRow w.heap.size 35 32 (.slice oa j oc) j (ids.flatMap bytes) := by
        have := own3.1
        rw [hid1.out] at this
        exact this
      clear hd hna own3
      go_wp2_with (first
        | (refine wpList_name1 15 d hl32 (by rfl) ?_)
        | (at_builtin; refine wpList_app1 (by rfl) _ _ 42 (by rfl) w.heap.size 35 32 32 el_dig (by rfl) own3k ([d].flatMap bytes) (by rfl) (by simp [bytes, hl32]) (by simpa using bytes_one d) (by omega) (by omega) (by omega) ?_; intro v4 w4 own4 app4))
      have q4 : Only [] w w4 := (ho.trans0 q3).app app4 (fun i hi => .inr (own3k.lt i hi).1)
      obtain ⟨va, vc, rfl⟩ := own_form own4
      go_wp2
      go_roundw
      case rel =>
        refine ⟨j + 1, by omega, by go_num, ⟨own_cast own4 (by simp; omega) ?_, ?_⟩, q4⟩
        · rw [HTS.out, ← HD.out, List.flatMap_append]
        · intro y hy
          obtain ⟨z, _, rfl⟩ := List.mem_map.1 hy
          exact nm_len z
      case measure => simp [intOf]; omega
    · obtain rfl : j = l.length := by omega
      have e : (l.take l.length).map nm = l.map nm := by rw [List.take_length]
      go_wp2
      go_ret
      exact ⟨_, rfl, by rw [← e]; exact hown, ho⟩

/-- The size of what is recorded, behind n calls. -/
def Few (n : Nat) (rs : List (List UInt8)) : Prop := (flatL rs).length ≤ 7000 + 1006 * n ∧ rs.length ≤ 1000 + n
theorem Few.nil : Few 0 [] := ⟨by simp [flatL], by simp⟩
theorem Few.same {n : Nat} {rs : List (List UInt8)} (h : Few n rs) : Few (n + 1) rs := ⟨by have := h.1; omega, by have := h.2; omega⟩
theorem Few.snoc {n : Nat} {rs : List (List UInt8)} {b : List UInt8} (h : Few n rs) (hb : b.length ≤ 1000) : Few (n + 1) (rs ++ [b]) := by
  refine ⟨?_, by have := h.2; simp; omega⟩
  rw [flatL_snoc, List.length_append, frameL_length]
  have := h.1
  omega
theorem Few.mono {n m : Nat} {rs : List (List UInt8)} (h : Few n rs) (hm : n ≤ m) : Few m rs := ⟨by have := h.1; omega, by have := h.2; omega⟩

/-- A keyper at k, with its blocks B, that is newer than w. -/
structure Ky (w W : World) (k : Nat) (rs : List (List UInt8)) (B : List Nat) : Prop where
  kb : KB W k rs B
  new : ∀ i ∈ B, w.heap.size ≤ i
  only : Only [] w W
theorem KB.one {W : World} {k : Nat} {rs : List (List UInt8)} {B : List Nat} (h : KB W k rs B) : ∀ r ∈ rs, 1 ≤ r.length ∧ r.length ≤ 1000 := by
  obtain ⟨_, _, _, _, _, _, _, h6⟩ := h
  exact h6
theorem Ky.kept0 {w W W' : World} {k : Nat} {rs : List (List UInt8)} {B : List Nat} (h : Ky w W k rs B) (ho : Only [] W W') : Ky w W' k rs B := ⟨h.kb.kept0 ho, h.new, h.only.trans0 ho⟩
theorem Ky.away {w W W' : World} {k : Nat} {rs : List (List UInt8)} {B ds : List Nat} (h : Ky w W k rs B) (ho : Only ds W W') (hd : ∀ i ∈ ds, i ∉ B ∧ w.heap.size ≤ i) : Ky w W' k rs B := ⟨h.kb.only ho (fun i hi => (hd i hi).1), h.new, h.only.trans ho (by simp) (fun i hi => .inr (hd i hi).2)⟩
theorem Few.step {n : Nat} {W : World} {k : Nat} {rs rs' : List (List UInt8)} {B : List Nat} (h : Few n rs) (hk : KB W k rs' B) (hc : rs' = rs ∨ ∃ b, rs' = rs ++ [b]) : Few (n + 1) rs' := by
  rcases hc with rfl | ⟨b, rfl⟩
  · exact h.same
  · exact h.snoc (hk.one b (by simp)).2
theorem keepR_case (rs : List (List UInt8)) (d s : List UInt8) : keepR rs d s = rs ∨ ∃ b, keepR rs d s = rs ++ [b] := by
  unfold keepR
  split
  · exact .inr ⟨_, rfl⟩
  · exact .inl rfl
theorem mcommitR_case (rs : List (List UInt8)) (slot : Nat) (ids : List (List UInt8)) : mcommitR rs slot ids = rs ∨ ∃ b, mcommitR rs slot ids = rs ++ [b] := by
  unfold mcommitR
  split
  · exact .inr ⟨_, rfl⟩
  · exact .inl rfl
theorem mforgetE_case (rs ids : List (List UInt8)) : (mforgetE rs ids).2 = rs ∨ ∃ b, (mforgetE rs ids).2 = rs ++ [b] := by
  unfold mforgetE
  split
  · exact .inl rfl
  · simp only
    split
    · exact .inl rfl
    · exact .inr ⟨_, rfl⟩

/-- What a call on a keyper leaves: the keyper, with new blocks; nothing else is changed. -/
def KyPost (w W : World) (k : Nat) (B : List Nat) (rs : List (List UInt8)) (n : Nat) (w' : World) : Prop :=
  ∃ B', Ky w w' k rs B' ∧ (∀ i ∈ B', i ∈ B ∨ W.heap.size ≤ i) ∧ Only B W w' ∧ Few (n + 1) rs

section
variable (w W : World) (k : Nat) (rs : List (List UInt8)) (B : List Nat) (n : Nat)
theorem ky_post {rs' : List (List UInt8)} {w' : World} (h : Ky w W k rs B) (hn : Few n rs) (hk : KB w' k rs' (B ++ newBs W w')) (ho : Only B W w') (hc : rs' = rs ∨ ∃ b, rs' = rs ++ [b]) : KyPost w W k B rs' n w' := by
  have hs := h.only.size
  refine ⟨_, ⟨hk, fun i hi => ?_, h.only.trans ho (by simp) (fun i hi => .inr (h.new i hi))⟩, fun i hi => ?_, ho, hn.step hk hc⟩
  · rcases List.mem_append.1 hi with hi | hi
    · exact h.new i hi
    · have := (mem_newBs.1 hi).1; omega
  · rcases List.mem_append.1 hi with hi | hi
    · exact .inl hi
    · exact .inr (mem_newBs.1 hi).1

theorem ky_open (ho : Only [] w W) (fv lv : Value) (f l : List UInt8) (hf : Bs W fv f) (hl : Bs W lv l) (hlen : f.length + l.length ≤ 500000) :
    Calls Try.prog 11 #[dskV fv lv] W fun e w' => ∃ k B, e = .returned (.pointer (some ⟨k, 0, none⟩)) ∧ Ky w w' k (allL (f ++ l)).1 B ∧ (∀ i ∈ B, W.heap.size ≤ i) ∧ Only [] W w' := by
  refine (kopen_any W fv lv f l hf hl hlen).mono ?_
  rintro e w' ⟨k, rfl, hk, o⟩
  have hs := ho.size
  exact ⟨k, _, rfl, ⟨hk, fun i hi => by have := (mem_newBs.1 hi).1; omega, ho.trans0 o⟩, fun i hi => (mem_newBs.1 hi).1, o⟩

theorem ky_keep (h : Ky w W k rs B) (hn : Few n rs) (hn2 : n ≤ 200) (d : List UInt8) (hd : d.length = 32) (sv : Value) (s : List UInt8) (hs : Bs W sv s) (hsl : s.length ≤ 1000) :
    Calls Try.prog 14 #[.pointer (some ⟨k, 0, none⟩), vD d, sv] W fun e w' => e = .returned (.int .i64 ((keepK (openK rs) d s).1 : Int)) ∧ KyPost w W k B (keepR rs d s) n w' := by
  have h1 := hn.1
  have h2 := hn.2
  refine (mkeep_any W k rs B h.kb d hd sv s hs hsl (by omega) (by omega)).mono ?_
  rintro e w' ⟨rfl, hk, o⟩
  exact ⟨rfl, ky_post w W k rs B n h hn hk o (keepR_case _ _ _)⟩

theorem ky_forget (h : Ky w W k rs B) (hn : Few n rs) (hn2 : n ≤ 200) (u : Value) (ids : List (List UInt8)) (hu : Dgs W u ids) :
    Calls Try.prog 17 #[.pointer (some ⟨k, 0, none⟩), u] W fun e w' => e = .returned (.tuple #[.int .i64 ((mforgetE rs ids).1.1 : Int), .int .i64 ((mforgetE rs ids).1.2 : Int)]) ∧ KyPost w W k B (mforgetE rs ids).2 n w' := by
  have h1 := hn.1
  have h2 := hn.2
  refine (mforget_any W k rs B h.kb u ids hu (by omega) (by omega)).mono ?_
  rintro e w' ⟨rfl, hk, o⟩
  exact ⟨rfl, ky_post w W k rs B n h hn hk o (mforgetE_case _ _)⟩

theorem ky_commit (h : Ky w W k rs B) (hn : Few n rs) (hn2 : n ≤ 200) (slot : Nat) (hslot : slot < 18446744073709551616) (u : Value) (ids : List (List UInt8)) (hu : Dgs W u ids) (huB : ∀ i, u.ownBlock = some i → ids = [] ∨ i ∉ B) :
    Calls Try.prog 15 #[.pointer (some ⟨k, 0, none⟩), .int .u64 (slot : Int), u] W fun e w' => ∃ ov V B', e = .returned (.tuple #[ov, .int .i64 ((commitK (openK rs) slot ids).1.2 : Int)]) ∧ Ky w w' k (mcommitR rs slot ids) B' ∧ OwnBss V w' ov (mcommitL rs slot ids) ∧ W.heap.size ≤ V ∧ (∀ i ∈ B', (i ∈ B ∨ W.heap.size ≤ i) ∧ i < V) ∧ V ≤ w'.heap.size ∧ Only B W w' ∧ Few (n + 1) (mcommitR rs slot ids) := by
  have h1 := hn.1
  have h2 := hn.2
  have hlt := h.kb.lt
  refine (mcommit_any W k rs B h.kb slot hslot u ids hu huB (by omega) (by omega)).mono ?_
  rintro e w' ⟨ov, V, rfl, hk, hO, hV1, hV2, o⟩
  have hs := h.only.size
  refine ⟨ov, V.heap.size, B ++ newBs W V, rfl, ⟨hk, fun i hi => ?_, h.only.trans o (by simp) (fun i hi => .inr (h.new i hi))⟩, hO, hV1, fun i hi => ?_, hV2, o, hn.step hk (mcommitR_case _ _ _)⟩
  · rcases List.mem_append.1 hi with hi | hi
    · exact h.new i hi
    · have := (mem_newBs.1 hi).1; omega
  · rcases List.mem_append.1 hi with hi | hi
    · exact ⟨.inl hi, by have := hlt i hi; omega⟩
    · have := mem_newBs.1 hi
      exact ⟨.inr this.1, this.2⟩
end
end Go.Proofs.Ytnlmeaijnfjakaa.Sh
/- The law's awake: walked. What the records tell behind a call: plain. -/
namespace Go.Proofs.Ytnlmeaijnfjakaa.Sh
open Go Go.RowKit

theorem openK_keepR (rs : List (List UInt8)) (d s : List UInt8) (hd : d.length = 32) : openK (keepR rs d s) = (keepK (openK rs) d s).2 := by
  unfold keepR
  split
  · rename_i h
    rw [openK_snoc, redo_rec1 _ _ _ hd (keepK_len h).2]
  · rename_i h
    exact (keepK_ne h).symm
theorem commitK_ids {m : Km} {slot : Nat} {ids : List (List UInt8)} (h : (commitK m slot ids).1.1 = true) : ids.length ≤ 8 := by
  unfold commitK at h
  split at h
  · cases h
  · omega
theorem openK_commitR (rs : List (List UInt8)) (slot : Nat) (ids : List (List UInt8)) (hs : slot < 18446744073709551616) (hd : ∀ d ∈ ids, d.length = 32) : openK (mcommitR rs slot ids) = (commitK (openK rs) slot ids).2 := by
  unfold mcommitR
  split
  · rename_i h
    rw [openK_snoc, redo_rec2 _ _ _ hs hd (commitK_ids h)]
  · rename_i h
    exact (commitK_ne (by simpa using h)).symm
theorem openK_forget (rs ids : List (List UInt8)) (hd : ∀ d ∈ ids, d.length = 32) : openK (mforgetE rs ids).2 = if 24 < ids.length then openK rs else (forgetK (openK rs) ids).2 := by
  unfold mforgetE
  split
  · rfl
  · simp only
    split
    · rename_i h
      exact (forgetK_zero h).symm
    · rw [openK_snoc, redo_rec3 _ _ hd (by omega)]

theorem wpList_name2 {ops : Array Oper} {rest : List Oper} {dst : Option Tmp} {ty : TypeId} {pos : String} {after : Array Edge} {a : Act} {w : World} {Q : Exit → Act → World → Prop} (k j : Tmp) (d g : List UInt8) (hd : d.length = 32) (hg : g.length = 32) (hv : a.eval (.tmp k) = vD d) (hu : a.eval (.tmp j) = vD g)
    (h : wpList Try.prog ops Q rest (a.put dst (.slice (some ⟨w.heap.size, 0, none⟩) 2 2)) (w.alloc (.cells ([d, g].flatMap bytes).toArray 35))) :
    wpList Try.prog ops Q ({ dst := dst, op := .buildSlice 42 2 #[(0, .tmp k), (1, .tmp j)], type := ty, pos := pos, after := after, guard := none } :: rest) a w :=
  wpList_names (o := { dst := dst, op := .buildSlice 42 2 #[(0, .tmp k), (1, .tmp j)], type := ty, pos := pos, after := after, guard := none }) rfl 2 #[(0, .tmp k), (1, .tmp j)] rfl [d, g] (by simp [hd, hg]) rfl (by omega) (by omega) (by simp [hv, hu]) h

/-- Names built stand for themselves. -/
theorem names_built (w : World) (ids : List (List UInt8)) (hd : ∀ d ∈ ids, d.length = 32) (hn : ids.length ≤ 1000) : OwnD w.heap.size (w.alloc (.cells (ids.flatMap bytes).toArray 35)) (.slice (some ⟨w.heap.size, 0, none⟩) ids.length ids.length) ids := by
  refine ⟨own_built w (ids.flatMap bytes) 35 32 ids.length ?_ (by unfold maxLen; omega), hd⟩
  induction ids with
  | nil => rfl
  | cons d ids ih =>
    rw [List.flatMap_cons, List.length_append, ih (fun x hx => hd x (by simp [hx])) (by simp at hn; omega), List.length_cons]
    simp [bytes, hd d (by simp)]
    omega

theorem awakeP : keepK (openK []) (nm 1) [7] = (0, ⟨[(nm 1, [7])], 0, [], false⟩) ∧ commitK ⟨[(nm 1, [7])], 0, [], false⟩ 3 [nm 1, nm 2] = ((true, 0), ⟨[(nm 1, [7])], 3, [nm 1, nm 2], true⟩) ∧ commitK ⟨[(nm 1, [7])], 3, [nm 1, nm 2], true⟩ 3 [nm 2] = ((false, 16), ⟨[(nm 1, [7])], 3, [nm 1, nm 2], true⟩) := by
  refine ⟨rfl, ?_, ?_⟩
  · unfold commitK; rw [if_neg (by decide)]; rfl
  · unfold commitK; rw [if_neg (by decide)]; rfl
theorem awakeQ : outL [(nm 1, [7])] [nm 1, nm 2] = [[7], []] := by decide

set_option maxRecDepth 20000 in
set_option maxHeartbeats 1600000 in
theorem awake20_any (w : World) :
    Calls Try.prog 9 #[] w fun e w' => e = .returned (.bool true) ∧ Only [] w w' := by
  have hn0 : ∀ W : World, Bs W (.slice none 0 0) [] := fun W => Bs.empty (by unfold maxLen; omega)
  have hop := ky_open w w (Only.refl [] w) _ _ [] [] (hn0 w) (hn0 w) (by simp)
  rw [show allL ([] ++ []) = ([], 0) from allL_bad _ (by simp [firstL])] at hop
  obtain ⟨p1, p2, p3⟩ := awakeP
  have kp := fun W k B (h : Ky w W k [] B) v (hb : Bs W v [7]) => ky_keep w W k [] B 0 h Few.nil (by omega) (nm 1) (nm_len 1) v [7] hb (by simp)
  have m1 := openK_keepR [] (nm 1) [7] (nm_len 1)
  simp only [p1] at kp m1
  obtain ⟨r1, hr1⟩ : ∃ r, r = keepR [] (nm 1) [7] := ⟨_, rfl⟩
  rw [← hr1] at m1
  simp only [← hr1] at kp
  clear hr1
  have i2 : ∀ d ∈ [nm 1, nm 2], d.length = 32 := by simp [nm_len]
  have i1 : ∀ d ∈ [nm 2], d.length = 32 := by simp [nm_len]
  have c1 := fun W k B (h : Ky w W k r1 B) (hf : Few 1 r1) u (hu : Dgs W u [nm 1, nm 2]) hB => ky_commit w W k r1 B 1 h hf (by omega) 3 (by omega) u _ hu hB
  have m2 := openK_commitR r1 3 [nm 1, nm 2] (by omega) i2
  unfold mcommitL at c1
  simp only [m1, p2, awakeQ, if_true] at c1 m2
  obtain ⟨r2, hr2⟩ : ∃ r, r = mcommitR r1 3 [nm 1, nm 2] := ⟨_, rfl⟩
  rw [← hr2] at m2
  simp only [← hr2] at c1
  clear hr2
  have c2 := fun W k B (h : Ky w W k r2 B) (hf : Few 2 r2) u (hu : Dgs W u [nm 2]) hB => ky_commit w W k r2 B 2 h hf (by omega) 3 (by omega) u _ hu hB
  have m3 := openK_commitR r2 3 [nm 2] (by omega) i1
  unfold mcommitL at c2
  simp only [m2, p3] at c2 m3
  obtain ⟨r3, hr3⟩ : ∃ r, r = mcommitR r2 3 [nm 2] := ⟨_, rfl⟩
  rw [← hr3] at m3
  simp only [← hr3] at c2
  clear hr3
  have hh := fun W k B (h : Ky w W k r3 B) => mhas_any W k r3 B h.kb (nm 1) (nm_len 1)
  simp only [m3, show (getS [(nm 1, [7])] (nm 1)).isSome = true by decide] at hh
  have n1 := fun W => (show Calls Try.prog 13 #[.int .u8 1] W _ from name_any W 1)
  have n2 := fun W => (show Calls Try.prog 13 #[.int .u8 2] W _ from name_any W 2)
  have hl1 := nm_len 1
  have hl2 := nm_len 2
  obtain ⟨d1, hd1⟩ : ∃ d, d = nm 1 := ⟨_, rfl⟩
  obtain ⟨d2, hd2⟩ : ∃ d, d = nm 2 := ⟨_, rfl⟩
  simp only [← hd1, ← hd2] at kp c1 c2 hh n1 n2 i1 i2 hl1 hl2
  replace hop := hid hop
  replace kp := hid kp
  replace c1 := hid c1
  replace c2 := hid c2
  replace hh := hid hh
  replace n1 := hid n1
  replace n2 := hid n2
  replace i1 := hid i1
  replace i2 := hid i2
  clear hn0 p1 p2 p3 m1 m2 m3 hd1 hd2
  go_enter Try.func9, Try.ntmps9
  go_wp2_with fail
  refine hop.out.mono ?_
  rintro e w1 ⟨k, B1, rfl, k1, b1, o1⟩
  go_wp2_with fail
  refine (n1.out _).mono ?_
  rintro e w2 ⟨rfl, q2⟩
  have k2 := k1.kept0 q2
  go_wp2_with fail
  refine (kp.out _ _ _ (k2.kept0 ((Only.refl [] w2).alloc _)) _ ?_).mono ?_
  · exact cs_built w2 [.int .u8 7] 5 1 1 (0, 0) rfl (by omega)
  rintro e w3 ⟨rfl, B3, k3, b3, o3, f3⟩
  go_wp2_with fail
  refine (n1.out _).mono ?_
  rintro e w4 ⟨rfl, q4⟩
  go_wp2_with fail
  refine (n2.out _).mono ?_
  rintro e w5 ⟨rfl, q5⟩
  have k5 := (k3.kept0 q4).kept0 q5
  have u5 := names_built w5 [d1, d2] i2.out (by simp)
  rw [show [d1, d2].flatMap bytes = bytes d1 ++ bytes d2 by simp] at u5
  have L5 := hid k5.kb.lt
  go_wp2_with (refine wpList_name2 19 20 d1 d2 hl1 hl2 (by rfl) (by rfl) ?_)
  refine (c1.out _ _ _ (k5.kept0 ((Only.refl [] _).alloc _)) f3 _ (u5.dgs (by simp)) (fun i hi => .inr (fun hm => by have := L5.out i hm; simp [Value.ownBlock] at hi; omega))).mono ?_
  rintro e w6 ⟨ov, V, B6, rfl, k6, hov, v1, v2, v3, o6, f6⟩
  obtain ⟨oa, oc, rfl, _⟩ := (hov.bss (by simp)).form
  have HOV := hid hov
  clear hov v3 o6 b3 o3 u5
  go_wp2_with fail
  refine (n2.out _).mono ?_
  rintro e w7 ⟨rfl, q7⟩
  have k7 := k6.kept0 q7
  have u7 := names_built w7 [d2] i1.out (by simp)
  rw [show [d2].flatMap bytes = bytes d2 by simp] at u7
  have L7 := hid k7.kb.lt
  go_wp2_with (refine wpList_name1 27 d2 hl2 (by rfl) ?_)
  refine (c2.out _ _ _ (k7.kept0 ((Only.refl [] _).alloc _)) f6 _ (u7.dgs (by simp)) (fun i hi => .inr (fun hm => by have := L7.out i hm; simp [Value.ownBlock] at hi; omega))).mono ?_
  rintro e w8 ⟨ov8, V8, B8, rfl, k8, hov8, y1, y2, y3, o8, f8⟩
  have hq : Only [] w6 (w7.alloc (Obj.cells (bytes d2).toArray 35)) := q7.trans0 ((Only.refl [] w7).alloc _)
  have HL := hid ((((HOV.out.kept0 hq).away o8 (fun i hi => (v2 i hi).2)).bss (by simp)))
  clear hov8 y2 o8 u7 v2 HOV hq
  go_wp2_with fail
  have o10 : Only [] w8 ((w8.alloc (Obj.cells #[.int .u8 7] 5)).alloc (Obj.cells #[.slice (some ⟨w8.heap.size, 0, none⟩) 1 1, .slice none 0 0] 27)) := ((Only.refl [] w8).alloc _).alloc _
  have hu10 : Bss ((w8.alloc (Obj.cells #[.int .u8 7] 5)).alloc (Obj.cells #[.slice (some ⟨w8.heap.size, 0, none⟩) 1 1, .slice none 0 0] 27)) (.slice (some ⟨w8.heap.size + 1, 0, none⟩) 2 2) [[7], []] := by
    have h1 := cs_built (w8.alloc (Obj.cells #[.int .u8 7] 5)) [.slice (some ⟨w8.heap.size, 0, none⟩) 1 1, .slice none 0 0] 27 1 2 (0, 0) rfl (by omega)
    rw [World.size_alloc] at h1
    have h2 : Bs (w8.alloc (Obj.cells #[.int .u8 7] 5)) (.slice (some ⟨w8.heap.size, 0, none⟩) 1 1) [7] := cs_built w8 [.int .u8 7] 5 1 1 (0, 0) rfl (by omega)
    exact ⟨_, h1, .cons (h2.kept0 ((Only.refl [] _).alloc _)) (.cons (Bs.empty (by unfold maxLen; omega)) .nil)⟩
  have hll := lists_any _ _ _ _ _ (HL.out.kept0 o10) hu10
  rw [decide_eq_true rfl] at hll
  have k10 := k8.kept0 o10
  clear hu10
  refine hll.mono ?_
  rintro e w11 ⟨rfl, q11⟩
  go_wp2_with fail
  refine (n1.out _).mono ?_
  rintro e w12 ⟨rfl, q12⟩
  have k12 := (k10.kept0 q11).kept0 q12
  go_wp2_with fail
  refine (hh.out _ _ _ k12).mono ?_
  rintro e w13 ⟨rfl, q13⟩
  have HF := hid (k12.only.trans0 q13)
  go_wp2
  go_ret
  exact ⟨rfl, HF.out⟩
end Go.Proofs.Ytnlmeaijnfjakaa.Sh
/- A nil keyper has nothing; what is told, and handed in, is memory of its own: the law's walk. -/
namespace Go.Proofs.Ytnlmeaijnfjakaa.Sh
open Go Go.RowKit

theorem field_nil (W : World) : (Instr.field 29 (dskV (.slice none 0 0) (.slice none 0 0)) 0).run Try.prog W = .ok (.slice none 0 0) W := by kernel_rfl
theorem nilP (s : List UInt8) (h1 : 1 ≤ s.length) (h2 : s.length ≤ 32) : keepK (openK []) (nm 1) s = (0, ⟨[(nm 1, s)], 0, [], false⟩) ∧ commitK ⟨[(nm 1, s)], 0, [], false⟩ 1 [nm 1] = ((true, 0), ⟨[(nm 1, s)], 1, [nm 1], true⟩) ∧ commitK ⟨[(nm 1, s)], 1, [nm 1], true⟩ 1 [nm 1] = ((false, 0), ⟨[(nm 1, s)], 1, [nm 1], true⟩) ∧ outL [(nm 1, s)] [nm 1] = [s] := by
  refine ⟨?_, ?_, ?_, ?_⟩
  · unfold keepK; rw [if_neg (by omega)]; rfl
  · unfold commitK; rw [if_neg (by simp [List.nodup_cons])]; rfl
  · unfold commitK; rw [if_neg (by simp [List.nodup_cons])]; rfl
  · simp [outL, getS]

set_option maxRecDepth 20000 in
set_option maxHeartbeats 3200000 in
theorem keyperNil_mid (w : World) {v : Value} {s : List UInt8} (hb : Bs w v s) (q2 : ¬ s.length < 1) (q3 : ¬ 32 < s.length) :
    Calls Try.prog 5 #[v] w fun e w' => e = .returned (.bool true) ∧ Only [] w w' := by
  obtain ⟨ba, bc, rfl⟩ := bs_form hb
  have hn0 : ∀ W : World, Bs W (.slice none 0 0) [] := fun W => Bs.empty (by unfold maxLen; omega)
  have hop := fun W => ky_open W W (Only.refl [] W) _ _ [] [] (hn0 W) (hn0 W) (by simp)
  rw [show allL ([] ++ []) = ([], 0) from allL_bad _ (by simp [firstL])] at hop
  obtain ⟨p1, p2, p3, p4⟩ := nilP s (by omega) (by omega)
  have kp := fun w W k B (h : Ky w W k [] B) v (hb : Bs W v s) => ky_keep w W k [] B 0 h Few.nil (by omega) (nm 1) (nm_len 1) v s hb (by omega)
  have m1 := openK_keepR [] (nm 1) s (nm_len 1)
  simp only [p1] at kp m1
  obtain ⟨r1, hr1⟩ : ∃ r, r = keepR [] (nm 1) s := ⟨_, rfl⟩
  rw [← hr1] at m1
  simp only [← hr1] at kp
  clear hr1
  have i1 : ∀ d ∈ [nm 1], d.length = 32 := by simp [nm_len]
  have c1 := fun w W k B (h : Ky w W k r1 B) (hf : Few 1 r1) u (hu : Dgs W u [nm 1]) hB => ky_commit w W k r1 B 1 h hf (by omega) 1 (by omega) u _ hu hB
  have m2 := openK_commitR r1 1 [nm 1] (by omega) i1
  unfold mcommitL at c1
  simp only [m1, p2, p4, if_true] at c1 m2
  obtain ⟨r2, hr2⟩ : ∃ r, r = mcommitR r1 1 [nm 1] := ⟨_, rfl⟩
  rw [← hr2] at m2
  simp only [← hr2] at c1
  clear hr2
  have c2 := fun w W k B (h : Ky w W k r2 B) (hf : Few 2 r2) u (hu : Dgs W u [nm 1]) hB => ky_commit w W k r2 B 2 h hf (by omega) 1 (by omega) u _ hu hB
  unfold mcommitL at c2
  simp only [m2, p3, p4, if_true] at c2
  obtain ⟨r3, hr3⟩ : ∃ r, r = mcommitR r2 1 [nm 1] := ⟨_, rfl⟩
  simp only [← hr3] at c2
  clear hr3
  have n1 := fun W => (show Calls Try.prog 13 #[.int .u8 1] W _ from name_any W 1)
  have hl1 := nm_len 1
  obtain ⟨d1, hd1⟩ : ∃ d, d = nm 1 := ⟨_, rfl⟩
  simp only [← hd1] at kp c1 c2 n1 i1 hl1
  have hsm := fun W v (h : Bs W v s) u (hu : Bs W u s) => same_any v u s s W h hu
  have hls := fun W v (h : Bss W v [s]) u (hu : Bss W u [s]) => lists_any v u [s] [s] W h hu
  simp only [decide_true] at hsm hls
  replace hop := hid hop
  replace kp := hid kp
  replace c1 := hid c1
  replace c2 := hid c2
  replace n1 := hid n1
  replace i1 := hid i1
  replace hsm := hid hsm
  replace hls := hid hls
  clear p1 p2 p3 p4 m1 m2 hd1
  replace hn0 := hid hn0
  have hle2 : ((s.length : Int) == 0) = false := by rw [beq_eq_false_iff_ne]; omega
  go_enter Try.func5, Try.ntmps5
  go_wp2_with fail
  refine (awake20_any _).mono ?_
  rintro e w1 ⟨rfl, o1⟩
  go_wp2_with fail
  refine (nil_commit w1 1 _).mono ?_
  rintro e w' ⟨rfl, h9⟩
  obtain rfl : w1 = w' := h9.symm
  clear h9
  go_wp2_with fail
  refine (nil_forget w1 _).mono ?_
  rintro e w' ⟨rfl, h9⟩
  obtain rfl : w1 = w' := h9.symm
  clear h9
  go_wp2_with fail
  refine (nil_slot w1).mono ?_
  rintro e w' ⟨rfl, h9⟩
  obtain rfl : w1 = w' := h9.symm
  clear h9
  go_wp2_with fail
  refine (hop.out w1).mono ?_
  rintro e w2 ⟨k, B2, rfl, k2, b2, o2⟩
  have L2 := hid k2.kb.lt
  have hownA := own_built w2 [] 5 1 0 rfl (by unfold maxLen; omega)
  have hbA := ((hb.kept0 o1).kept0 o2).kept0 ((Only.refl [] w2).alloc (Obj.cells #[] 5))
  go_wp2_with (at_builtin; refine wpList_app (by rfl) _ _ 27 (by rfl) w2.heap.size 5 1 1 el_u8 (by rfl) hownA (by rfl) hbA (bytes_one s) (by omega) (by omega) (by simp) ?_; intro v3 w3 hown3 happ3; obtain ⟨g, gc, rfl, hg1, hg2, hg3, hg4, hcells⟩ := own_at (own_cast hown3 (show 0 + s.length = s.length by omega) (show [] ++ bytes s = bytes s by simp)) (by omega); have hBo : Bs w3 (.slice (some ⟨g, 0, none⟩) s.length gc) s := Cs.of_own (own_cast hown3 (show 0 + s.length = s.length by omega) (show [] ++ bytes s = bytes s by simp)) (by omega))
  have o3 : Only [] w2 w3 := ((Only.refl [] w2).alloc _).app happ3 (fun k hk => .inr (hownA.lt k hk).1)
  obtain ⟨f0, f0'⟩ := hcells 0 (vU8 s[0]) (bytes_get (by omega))
  have k3 := k2.kept0 o3
  clear hown3 happ3 hownA hcells hbA b2
  refine (n1.out _).mono ?_
  rintro e w4 ⟨rfl, q4⟩
  have k4 := k3.kept0 q4
  have s3 := o3.size
  have s4 := q4.size
  go_wp2_with fail
  refine (kp.out _ _ _ _ k4 _ (hBo.kept0 q4)).mono ?_
  rintro e w5 ⟨rfl, B5, k5, b5, o5, f5⟩
  have s5 := o5.size
  have hgB2 : g ∉ B2 := fun hm => by have := L2.out g hm; omega
  have hgB5 : g ∉ B5 := fun hm => by
    rcases b5 g hm with h | h
    · exact hgB2 h
    · omega
  have c5 := o5.cell (q4.cell f0 (by simp)) hgB2
  have d5 : w5.frozen? ⟨g, 0, none⟩ = false := by rw [o5.frozen' (by simp only; omega) hgB2, q4.frozen' (by simpa using hg2) (by simp)]; exact f0'
  have q6 : Only [g] w5 (w5.setCell ⟨g, 0, none⟩ (.int .u8 (bits .xor .u8 (s[0].toNat : Int) 1))) := (Only.refl [g] w5).setCell (.inl (by simp)) _
  have sz1 := o1.size
  have sz2 := o2.size
  have k6 := k5.away q6 (fun i hi => by rw [List.mem_singleton.1 hi]; exact ⟨hgB5, by omega⟩)
  clear k2 k3 k4 k5 hBo f0 f0' b5 hgB2 hgB5 L2
  go_wp2_with fail
  obtain ⟨w6, hw6⟩ : ∃ w6, w6 = w5.setCell ⟨g, 0, none⟩ (.int .u8 (bits .xor .u8 (s[0].toNat : Int) 1)) := ⟨_, rfl⟩
  rw [← hw6] at k6 q6 ⊢
  clear hw6
  refine (n1.out _).mono ?_
  rintro e w7 ⟨rfl, q7⟩
  have k7 := k6.kept0 q7
  have u7 := names_built w7 [d1] i1.out (by simp)
  rw [show [d1].flatMap bytes = bytes d1 by simp] at u7
  have L7 := hid k7.kb.lt
  go_wp2_with (refine wpList_name1 62 d1 hl1 (by rfl) ?_)
  refine (c1.out _ _ _ _ (k7.kept0 ((Only.refl [] _).alloc _)) f5 _ (u7.dgs (by simp)) (fun i hi => .inr (fun hm => by have := L7.out i hm; simp [Value.ownBlock] at hi; omega))).mono ?_
  rintro e w8 ⟨ov, V, B8, rfl, k8, hov, y1, y2, y3, o8, f8⟩
  clear o8 u7 L7 k6 k7 c5 d5
  obtain ⟨vs, r6a, r6b⟩ := hov
  obtain ⟨rv, rfl⟩ : ∃ rv, vs = [rv] := by
    have := r6b.length
    match vs, this with
    | [rv], _ => exact ⟨rv, rfl⟩
  obtain ⟨hrow, _⟩ : (w8.ownsRow V 5 1 rv s.length (bytes s) ∧ s.length ≤ 9223372036854775807) := by
    cases r6b with
    | cons h _ => exact h
  clear r6b
  obtain ⟨rg, rc, rfl, rg1, rg2, rg3, rg4, rcell⟩ := own_at r6a (by simp)
  obtain ⟨ig, ic, rfl, ig1, ig2, ig3, ig4, icell⟩ := own_at hrow (by omega)
  obtain ⟨rc0, _⟩ := rcell 0 _ rfl
  obtain ⟨ic0, ic1⟩ := icell 0 (vU8 s[0]) (bytes_get (by omega))
  have hBi : Bs w8 (.slice (some ⟨ig, 0, none⟩) s.length ic) s := Cs.of_own hrow (by omega)
  have hb8 := hb.kept0 (o1.trans0 k8.only)
  clear r6a hrow rcell icell
  go_wp2_with fail
  refine (hsm.out _ _ hBi _ hb8).mono ?_
  rintro e w9 ⟨rfl, q9⟩
  have s9 := q9.size
  have rc9 := q9.cell rc0 (by simp)
  have ic9 := q9.cell ic0 (by simp)
  have id9 : w9.frozen? ⟨ig, 0, none⟩ = false := by rw [q9.frozen' (by simpa using ig2) (by simp)]; exact ic1
  have q10 : Only [ig] w9 (w9.setCell ⟨ig, 0, none⟩ (.int .u8 (bits .xor .u8 (s[0].toNat : Int) 1))) := (Only.refl [ig] w9).setCell (.inl (by simp)) _
  have sk6 := k8.only.size
  have k10 := (k8.kept0 q9).away q10 (fun i hi => by
    rw [List.mem_singleton.1 hi]
    refine ⟨fun hm => by have := (y2 ig hm).2; omega, ?_⟩
    have := q7.size
    have := q6.size
    rw [World.size_alloc] at y1
    omega)
  clear k8 y2 rc0 ic0 ic1 hBi hb8
  go_wp2_with fail
  obtain ⟨w10, hw10⟩ : ∃ w10, w10 = w9.setCell ⟨ig, 0, none⟩ (.int .u8 (bits .xor .u8 (s[0].toNat : Int) 1)) := ⟨_, rfl⟩
  rw [← hw10] at k10 q10 ⊢
  clear hw10
  refine (n1.out _).mono ?_
  rintro e w11 ⟨rfl, q11⟩
  have k11 := k10.kept0 q11
  have u11 := names_built w11 [d1] i1.out (by simp)
  rw [show [d1].flatMap bytes = bytes d1 by simp] at u11
  have L11 := hid k11.kb.lt
  go_wp2_with (refine wpList_name1 93 d1 hl1 (by rfl) ?_)
  refine (c2.out _ _ _ _ (k11.kept0 ((Only.refl [] _).alloc _)) f8 _ (u11.dgs (by simp)) (fun i hi => .inr (fun hm => by have := L11.out i hm; simp [Value.ownBlock] at hi; omega))).mono ?_
  rintro e w12 ⟨ov2, V2, B12, rfl, k12, hov2, z1, z2, z3, o12, f12⟩
  have hO2 := hid (hov2.bss (by simp))
  have HO12 := hid (o1.trans0 k12.only)
  clear k10 k11 u11 L11 k12 hov2 z2 o12 f12 y1 y3 z1 z3
  obtain ⟨oa, oc, rfl, _⟩ := hO2.out.form
  go_wp2_with fail
  refine (n1.out _).mono ?_
  rintro e w13 ⟨rfl, q13⟩
  go_wp2_with fail
  refine (nil_keep w13 d1 hl1 _).mono ?_
  rintro e w14 ⟨rfl, q14⟩
  go_wp2_with fail
  refine (n1.out _).mono ?_
  rintro e w15 ⟨rfl, q15⟩
  go_wp2_with fail
  refine (nil_has w15 d1 hl1).mono ?_
  rintro e w16 ⟨rfl, q16⟩
  go_wp2_with fail
  refine (nil_len w16).mono ?_
  rintro e w' ⟨rfl, h9⟩
  obtain rfl : w16 = w' := h9.symm
  clear h9
  go_wp2_with fail
  refine (nil_disk w16).mono ?_
  rintro e w17 ⟨rfl, q17⟩
  have hfn := field_nil
  have q1217 := (((q13.trans0 q14).trans0 q15).trans0 q16).trans0 q17
  have hb17 := hb.kept0 (HO12.out.trans0 q1217)
  go_wp2_with fail
  have u18 : Bss (w17.alloc (Obj.cells #[.slice ba s.length bc] 27)) (.slice (some ⟨w17.heap.size, 0, none⟩) 1 1) [s] :=
    ⟨_, cs_built w17 [.slice ba s.length bc] 27 1 1 (0, 0) rfl (by omega), .cons (hb17.kept0 ((Only.refl [] _).alloc _)) .nil⟩
  have o18 : Only [] w17 (w17.alloc (Obj.cells #[.slice ba s.length bc] 27)) := (Only.refl [] w17).alloc _
  refine (hls.out _ _ ((hO2.out.kept0 q1217).kept0 o18) _ u18).mono ?_
  rintro e w19 ⟨rfl, q19⟩
  have HF := hid (((HO12.out.trans0 q1217).trans0 o18).trans0 q19)
  clear u18 hb17
  go_wp2
  go_ret
  exact ⟨rfl, HF.out⟩

set_option maxRecDepth 20000 in
set_option maxHeartbeats 1600000 in
theorem keyperNil_walk (w : World) {v : Value} {s : List UInt8} (hb : Bs w v s) :
    Calls Try.prog 5 #[v] w fun e w' => e = .returned (.bool true) ∧ Only [] w w' := by
  by_cases q2 : s.length < 1
  · obtain ⟨ba, bc, rfl⟩ := bs_form hb
    go_enter Try.func5, Try.ntmps5
    go_wp2_with fail
    refine (awake20_any _).mono ?_
    rintro e w1 ⟨rfl, o1⟩
    go_wp2_with fail
    refine (awake20_any _).mono ?_
    rintro e w2 ⟨rfl, o2⟩
    go_wp2
    go_ret
    exact ⟨rfl, o1.trans0 o2⟩
  · by_cases q3 : 32 < s.length
    · obtain ⟨ba, bc, rfl⟩ := bs_form hb
      go_enter Try.func5, Try.ntmps5
      go_wp2_with fail
      refine (awake20_any _).mono ?_
      rintro e w1 ⟨rfl, o1⟩
      go_wp2_with fail
      refine (awake20_any _).mono ?_
      rintro e w2 ⟨rfl, o2⟩
      go_wp2
      go_ret
      exact ⟨rfl, o1.trans0 o2⟩
    · exact keyperNil_mid w hb q2 q3
end Go.Proofs.Ytnlmeaijnfjakaa.Sh
