import Derived.Test.YtbpkkgaaeodimaaGreatDoorXG26
import Derived.Test.YtbpkkgaaeodimaaGreatDoorXG22
import Derived.Test.YtbpkkgaaeodimaaGreatDoorXG09
import Derived.Test.YtbpkkgaaeodimaaGreatDoorXG16
namespace Go.Proofs.YtbpkkgaaeodimaaGreatDoor
open Go.RowKit

/-! A whole address, as the program reads it. -/
set_option maxHeartbeats 2000000 in
set_option maxRecDepth 100000 in
theorem url_parse (s : ByteArray) (w : World) (hs : s.size ≤ 1000000) (HE : Hid (Env w)) :
    Calls Tryz.prog 51 #[.string s] w fun e w' => ParsedU w w' (parseC (bl s)) e ∧ Hid (Bel w w') := by
  have HB2 : Hid (Bel w ((w.alloc (.cells noC.cells.toArray 24)).alloc (.cells (noC.cells ++ [Value.string s]).toArray 66))) := ((Below.refl _ w).alloc (Nat.le_refl _) _).alloc (by simp) _
  have hr0 := RowAt.new (w.alloc (.cells noC.cells.toArray 24)) (noC.cells ++ [Value.string s]).toArray 66
  rw [show (w.alloc (.cells noC.cells.toArray 24)).heap.size = w.heap.size + 1 by simp] at hr0
  have HR0 : Hid (Rd w ((w.alloc (.cells noC.cells.toArray 24)).alloc (.cells (noC.cells ++ [Value.string s]).toArray 66)) (w.heap.size + 1) noC [.string s] ((w.alloc (.cells noC.cells.toArray 24)).alloc (.cells (noC.cells ++ [Value.string s]).toArray 66))) := ⟨hr0, HB2.out, by omega, HE.out, .refl _ _⟩
  have RB0 : Hid (RowAt ((w.alloc (.cells noC.cells.toArray 24)).alloc (.cells (noC.cells ++ [Value.string s]).toArray 66)) w.heap.size (noC.cells ++ [])) := (RowAt.new w noC.cells.toArray 24).bel ((Below.refl _ _).alloc (Nat.le_refl _) _)
  rw [no_cells, show (noC.cells ++ [Value.string s]).toArray = #[.string ⟨#[]⟩, .string ⟨#[]⟩, .string ⟨#[]⟩, .string ⟨#[]⟩, .bool false, .int .i64 0, .bool false, .slice none 0 0, .string ⟨#[]⟩, .string ⟨#[]⟩, .bool false, .bool false, .string s] by rfl] at HR0 RB0
  clear HB2 hr0
  go_enter Tryz.func51, Tryz.ntmps51
  go_wp2_with fail
  obtain ⟨g, hg⟩ : ∃ g, w.heap.size + 1 = g := ⟨_, rfl⟩
  rw [hg] at HR0 ⊢
  have hne : w.heap.size ≠ g := by omega
  have HG := Lib.hid hg
  clear hg
  generalize (World.alloc (w.alloc _) (.cells _ 66)) = w2 at *
  refine (rd_fragment g noC s w w2 hs HR0).mono ?_
  rintro e w4 ⟨r, f, rfl, hr, hrz, hf, HR2⟩
  have RB2 := Lib.hid (HR2.out.fr.row hne RB0.out)
  obtain ⟨k12, l12⟩ := HR2.out.rest
  have hrz2 : r.size ≤ 1000000 := by omega
  go_wp2_with fail
  refine (url_schemed r _ hrz2).mono ?_
  rintro e w5 ⟨hsch, HB5⟩
  have HR3 := Lib.hid (HR2.out.step HB5.out)
  have RB3 := Lib.hid (RB2.out.bel HB5.out)
  have HF : Hid (parseC (bl s) = match schemeS (bl r) with
    | none => .error 12
    | some (s1, r) => allS { (fragS noUrl (bl s)).1 with scheme := s1 } r) := by
    unfold Hid
    rw [hr.out]; rfl
  have HFR : Hid (∀ a : ByteArray, ({ (fragS noUrl (bl s)).1 with scheme := bl a } : UrlS) = ({ noC with frag := f, hasFrag := (segS 35 (bl s)).2.2, scheme := a } : UrlC).flat []) := fun a => by
    unfold fragS UrlC.flat
    rw [hf.out]; rfl
  generalize (segS 35 (bl s)).2.2 = has at *
  clear HR0 RB0 HR2 RB2 hf hr k12 l12
  rcases hsch with ⟨a, b, rfl, hab, habz⟩ | ⟨rfl, hnone⟩
  · rw [hab.out] at HF
    replace HF : Hid (parseC (bl s) = allS { (fragS noUrl (bl s)).1 with scheme := bl a } (bl b)) := HF
    rw [HFR.out a] at HF
    obtain ⟨⟨k0, l0⟩, _⟩ := HR3.out.cells
    have HR4 := Lib.hid (HR3.out.put 0 (.string a) (c' := { noC with frag := f, hasFrag := has, scheme := a }) (ext' := [.string r]) rfl)
    obtain ⟨k12, l12⟩ := HR4.out.rest
    have HR5 := Lib.hid (HR4.out.put 12 (.string b) (c' := { noC with frag := f, hasFrag := has, scheme := a }) (ext' := [.string b]) rfl)
    have RB5 : Hid (RowAt ((w5.setCell ⟨g, 0, none⟩ (.string a)).setCell ⟨g, 12, none⟩ (.string b)) w.heap.size (noC.cells ++ [])) := BelP.row (BelP.set (g := g) ⟨g, 12, none⟩ (.string b) rfl) hne (BelP.row (BelP.set (g := g) ⟨g, 0, none⟩ (.string a) rfl) hne RB3.out)
    have hbz : b.size ≤ 1000000 := by omega
    have HQ := fun W we (h : Hid (Rd w we g { noC with frag := f, hasFrag := has, scheme := a } [.string b] W)) => rd_all g { noC with frag := f, hasFrag := has, scheme := a } b w W hbz (Lib.hid h.out.now) rfl
    go_wp2_with fail
    refine (HQ _ _ HR5).mono ?_
    rintro e w6 ⟨v, rfl, HV, c6, a6, HR6'⟩
    have HR6 := Lib.hid (HR5.out.next HR6'.out)
    have RB6 := Lib.hid (HR6'.out.fr.row hne RB5.out)
    have hbase : w.heap.size < ((w5.setCell ⟨g, 0, none⟩ (.string a)).setCell ⟨g, 12, none⟩ (.string b)).heap.size := RB5.out.1
    generalize ((w5.setCell ⟨g, 0, none⟩ (.string a)).setCell ⟨g, 12, none⟩ (.string b)) = w5' at *
    clear HR4 HR5 RB5 HR3 RB3 HR6' k0 l0 k12 l12
    obtain ⟨o, ho⟩ : ∃ o, allS (({ noC with frag := f, hasFrag := has, scheme := a } : UrlC).flat []) (bl b) = o := ⟨_, rfl⟩
    rw [ho] at HF HV ⊢
    clear ho HFR
    obtain ⟨c7, q, rfl, hfl, HOW⟩ := HV.out
    have h1c := own_cell HOW
    have HFL := Lib.hid hfl
    replace HOW := Lib.hid HOW
    have HBASE := Lib.hid hbase
    clear HV hfl hbase
    go_wp2_with (first | (refine store_url rfl _ _ (by exact rfl) w.heap.size (by exact rfl) noC c7 [] (by exact rfl) RB6.out h1c ?_; intro w7 HRB HBP))
    refine bodyPost_ret (res_url rfl _ _ w.heap.size c7 [] (by exact rfl) HRB.out) rfl ?_
    refine ⟨⟨_, by rw [HF.out]; rfl, ?_⟩, BelP.bel HR6.out.bel (fun k hk => by rw [hk]; exact Nat.le_refl _) HBP.out⟩
    rw [HF.out]
    refine ⟨c7, q, rfl, HFL.out, ?_⟩
    refine BelP.own HBP.out (fun k hk => ?_) (HOW.out.weak (Nat.le_of_lt HBASE.out))
    have := HOW.out.base k hk
    have := HBASE.out
    omega
  · rw [hnone.out] at HF
    replace HF : Hid (parseC (bl s) = .error 12) := HF
    go_wp2_with (first | (refine store_url rfl _ _ (by exact rfl) w.heap.size (by exact rfl) noC noC [] (by exact rfl) RB3.out rfl ?_; intro w7 HRB HBP))
    refine bodyPost_ret (res_url rfl _ _ w.heap.size noC [] (by exact rfl) HRB.out) rfl ?_
    refine ⟨⟨_, by rw [HF.out]; rfl, by rw [HF.out]; exact urlV_no _ _⟩, ?_⟩
    exact BelP.bel HR3.out.bel (fun k hk => by rw [hk]; exact Nat.le_refl _) HBP.out
end Go.Proofs.YtbpkkgaaeodimaaGreatDoor
namespace Go.Proofs.YtbpkkgaaeodimaaGreatDoor
open Go.RowKit

/-! The program's Parse. -/
set_option maxHeartbeats 2000000 in
set_option maxRecDepth 100000 in
theorem url_Parse (s : ByteArray) (w : World) (hs : s.size ≤ 1000000) (HE : Hid (Env w)) :
    Calls Tryz.prog 33 #[.string s] w fun e w' => ParsedU w w' (urlS (bl s)) e ∧ Hid (Bel w w') := by
  by_cases hlong : 4096 < s.size
  · have HU : Hid (urlS (bl s) = .error 3) := by unfold Hid urlS; rw [if_pos (by rw [bl_length]; exact hlong)]
    have hlong2 : (4096 : Int) < s.size := by omega
    have R0 := Lib.hid (RowAt.new w noC.cells.toArray 24)
    rw [no_cells] at R0
    go_enter Tryz.func33, Tryz.ntmps33
    go_wp2_with (first | (refine store_url rfl _ _ (by exact rfl) w.heap.size (by exact rfl) noC noC [] (by exact rfl) R0.out rfl ?_; intro w7 HRB HBP))
    refine bodyPost_ret (res_url rfl _ _ w.heap.size noC [] (by exact rfl) HRB.out) rfl ?_
    exact ⟨⟨_, by rw [HU.out]; rfl, by rw [HU.out]; exact urlV_no _ _⟩, BelP.bel ((Below.refl _ w).alloc (Nat.le_refl _) _) (fun k hk => by rw [hk]; exact Nat.le_refl _) HBP.out⟩
  · have hok : s.size ≤ 4096 := by omega
    have HU : Hid (urlS (bl s) = parseC (cleanS (bl s))) := by unfold Hid urlS; rw [if_neg (by rw [bl_length]; exact hlong)]
    have hlong2 : ¬ (4096 : Int) < s.size := by omega
    clear hlong
    have HB1 : Hid (Bel w (w.alloc (.cells noC.cells.toArray 24))) := (Below.refl _ w).alloc (Nat.le_refl _) _
    have R0 : Hid (RowAt (w.alloc (.cells noC.cells.toArray 24)) w.heap.size (noC.cells ++ [])) := RowAt.new w noC.cells.toArray 24
    rw [no_cells] at HB1 R0
    go_enter Tryz.func33, Tryz.ntmps33
    go_wp2_with fail
    refine (url_cleaned s _ hs).mono ?_
    rintro e w3 ⟨⟨t, rfl, ht, htz⟩, HB3⟩
    have R1 := Lib.hid (R0.out.bel HB3.out)
    have HW3 := Lib.hid (bel_trans HB1.out HB3.out)
    have HE3 := Lib.hid (HE.out.bel HW3.out)
    have hbase : Hid (w.heap.size < w3.heap.size) := R1.out.1
    clear R0 HB1 HB3
    go_wp2_with fail
    refine (url_parse t _ (by omega) HE3).mono ?_
    rintro e w4 ⟨⟨v, rfl, HV⟩, HB4⟩
    have R2 := Lib.hid (R1.out.bel HB4.out)
    have HW4 := Lib.hid (bel_trans HW3.out HB4.out)
    have HF : Hid (urlS (bl s) = parseC (bl t)) := by unfold Hid; rw [HU.out, ht.out]
    obtain ⟨c7, q, rfl, hfl, HOW⟩ := HV.out
    have h1c := own_cell HOW
    have HFL := Lib.hid hfl
    replace HOW := Lib.hid HOW
    clear HV hfl R1 HW3 HE3
    go_wp2_with (first | (refine store_url rfl _ _ (by exact rfl) w.heap.size (by exact rfl) noC c7 [] (by exact rfl) R2.out h1c ?_; intro w7 HRB HBP))
    refine bodyPost_ret (res_url rfl _ _ w.heap.size c7 [] (by exact rfl) HRB.out) rfl ?_
    refine ⟨⟨_, by rw [HF.out]; rfl, ?_⟩, BelP.bel HW4.out (fun k hk => by rw [hk]; exact Nat.le_refl _) HBP.out⟩
    rw [HF.out]
    refine ⟨c7, q, rfl, HFL.out, ?_⟩
    refine BelP.own HBP.out (fun k hk => ?_) (HOW.out.weak (Nat.le_of_lt hbase.out))
    have := HOW.out.base k hk
    have := hbase.out
    omega
end Go.Proofs.YtbpkkgaaeodimaaGreatDoor
namespace Go.Proofs.YtbpkkgaaeodimaaGreatDoor
open Go.RowKit

/-! The text of an address, as the program writes it. -/
/-- A text that is being written: the builder at block B, the address in block b. -/
structure Bs (w0 : World) (B b : Nat) (c : UrlC) (acc : List UInt8) (w : World) : Prop where
  bld : Bld w B B acc
  bel : Bel w0 w
  row : RowAt w b c.cells
  big : B ≤ w.heap.size
  h1 : b < B
  h2 : w0.heap.size ≤ B
theorem Bs.cells {w0 w : World} {B b : Nat} {c : UrlC} {acc : List UInt8} (h : Bs w0 B b c acc w) : At12 w b c :=
  ⟨h.row.2 0 _ rfl, h.row.2 1 _ rfl, h.row.2 2 _ rfl, h.row.2 3 _ rfl, h.row.2 4 _ rfl, h.row.2 5 _ rfl, h.row.2 6 _ rfl, h.row.2 7 _ rfl, h.row.2 8 _ rfl, h.row.2 9 _ rfl, h.row.2 10 _ rfl, h.row.2 11 _ rfl⟩
theorem Bs.step {w0 w w' : World} {B b : Nat} {c : UrlC} {acc : List UInt8} (h : Bs w0 B b c acc w) (hb : Bel w w') : Bs w0 B b c acc w' :=
  ⟨h.bld.bel hb, bel_trans h.bel hb, h.row.bel hb, Nat.le_trans h.big hb.size, h.h1, h.h2⟩
theorem below_bel {B : Nat} {w w' : World} (h : Below B w w') : BelP (fun k => B ≤ k) w w' := ⟨h.os, h.tape, h.output, h.size, fun k _ hn => h.block k (by omega)⟩
theorem Bs.next {w0 w w' : World} {B b : Nat} {c : UrlC} {acc acc' : List UInt8} (h : Bs w0 B b c acc w) (k1 : Bld w' B B acc') (k2 : Below B w w') : Bs w0 B b c acc' w' :=
  ⟨k1, BelP.bel h.bel (fun k hk => Nat.le_trans h.h2 hk) (below_bel k2), (below_bel k2).row (by have := h.h1; omega) h.row, Nat.le_trans h.big k2.size, h.h1, h.h2⟩
theorem Bs.write {w0 w : World} {B b : Nat} {c : UrlC} {acc : List UInt8} (h : Hid (Bs w0 B b c acc w)) (s : ByteArray) (hl : acc.length ≤ 100000000) (hs : s.size ≤ 100000000) :
    Calls Tryz.prog 58 #[.pointer (some ⟨B, 0, none⟩), .string s] w fun e w' => e = .returned (.tuple #[.int .i64 s.size, .nilIface]) ∧ Hid (Bs w0 B b c (acc ++ bl s) w') := by
  refine (Any.Builder_WriteString lays166 Tryz.Builder_Extra_156 B B (acc.map u8v) s w h.out.bld (by rw [List.length_map]; omega) h.out.big).mono ?_
  rintro e w' ⟨he, hb, hw⟩
  exact ⟨he, h.out.next (.inr (by rw [List.map_append]; exact hb)) hw⟩
theorem Bs.byte {w0 w : World} {B b : Nat} {c : UrlC} {acc : List UInt8} (h : Hid (Bs w0 B b c acc w)) (x : UInt8) (v : Int) (hv : v = x.toNat) (hl : acc.length ≤ 100000000) :
    Calls Tryz.prog 59 #[.pointer (some ⟨B, 0, none⟩), .int .u8 v] w fun e w' => e = .returned .nilIface ∧ Hid (Bs w0 B b c (acc ++ [x]) w') := by
  subst hv
  refine (Any.Builder_WriteByte lays167 extra167 B B (acc.map u8v) x.toNat w h.out.bld (by rw [List.length_map]; omega) h.out.big).mono ?_
  rintro e w' ⟨he, hb, hw⟩
  exact ⟨he, h.out.next (.inr (by rw [List.map_append]; exact hb)) hw⟩
theorem Bs.text {w0 w : World} {B b : Nat} {c : UrlC} {acc : List UInt8} (h : Hid (Bs w0 B b c acc w)) :
    Calls Tryz.prog 61 #[.pointer (some ⟨B, 0, none⟩)] w fun e w' => (∃ t, e = .returned (.string t) ∧ Hid (bl t = acc)) ∧ Hid (Bel w0 w') := by
  refine (Tryz.Builder_String_any B B acc w h.out.bld h.out.big).mono ?_
  rintro e w' ⟨he, hw⟩
  exact ⟨⟨_, he, by unfold Hid; rw [bl_mk]⟩, BelP.bel h.out.bel (fun k hk => Nat.le_trans h.out.h2 hk) (below_bel hw)⟩
theorem Bs.new (w : World) (c : UrlC) : Bs w (w.heap.size + 1) w.heap.size c [] ((w.alloc (.cells c.cells.toArray 24)).alloc (.cells #[.pointer none, .slice none 0 0] 73)) := by
  have h1 := bld_new (w.alloc (.cells c.cells.toArray 24))
  have hz : (w.alloc (.cells c.cells.toArray 24)).heap.size = w.heap.size + 1 := by simp
  rw [hz] at h1
  refine ⟨h1, ((Below.refl _ w).alloc (Nat.le_refl _) _).alloc (by simp) _, ?_, by simp, by omega, by omega⟩
  exact (RowAt.new w c.cells.toArray 24).bel ((Below.refl _ _).alloc (Nat.le_refl _) _)
end Go.Proofs.YtbpkkgaaeodimaaGreatDoor
namespace Go.Proofs.YtbpkkgaaeodimaaGreatDoor
open Go.RowKit

def hostP (u : UrlS) : List UInt8 := if u.hasHost = true then [47, 47] ++ u.user ++ (if u.pass ≠ [] then 58 :: u.pass else []) ++ (if u.user ≠ [] ∨ u.pass ≠ [] then [64] else []) ++ u.host ++ (if u.port ≠ -1 then 58 :: Lib.itoa u.port else []) else []
def dotP (u : UrlS) : List UInt8 := if u.hasHost = false ∧ u.opaq = false ∧ 1 < u.path.length ∧ u.path.head? = some [] then [47, 46] else []
def segP (b : Bool) (x : List UInt8) : List UInt8 := if b = true then x else 47 :: x
theorem bare_parts (u : UrlS) : bareS u = (u.scheme ++ [58] ++ hostP u) ++ dotP u ++ u.path.flatMap (segP u.opaq) ++ (if u.hasQuery = true then 63 :: u.query else []) := rfl
theorem seg_next (b : Bool) (l : List (List UInt8)) (k : Nat) (x : List UInt8) (h : l[k]? = some x) : (l.take (k + 1)).flatMap (segP b) = (l.take k).flatMap (segP b) ++ segP b x := by
  rw [List.take_add_one, h, List.flatMap_append]
  simp
theorem seg_le (b : Bool) (l : List (List UInt8)) (k : Nat) : ((l.take k).flatMap (segP b)).length ≤ plen l := by
  refine Nat.le_trans ?_ (flat_len b l)
  have h : l.flatMap (segP b) = (l.take k).flatMap (segP b) ++ (l.drop k).flatMap (segP b) := by rw [← List.flatMap_append, List.take_append_drop]
  show _ ≤ (l.flatMap (segP b)).length
  rw [h, List.length_append]
  exact Nat.le_add_right _ _
theorem plen_ge : ∀ l : List (List UInt8), l.length ≤ plen l
  | [] => Nat.le_refl _
  | x :: r => by
    have := plen_ge r
    rw [plen, List.length_cons]; omega
theorem seg_ge (b : Bool) (x : List UInt8) : x.length ≤ (segP b x).length := by
  unfold segP
  split <;> simp
/-- The parts are small. -/
structure Small (c : UrlC) (p : List (List UInt8)) : Prop where
  s : c.scheme.size ≤ 1000000
  u : c.user.size ≤ 1000000
  a : c.pass.size ≤ 1000000
  h : c.host.size ≤ 1000000
  q : c.query.size ≤ 1000000
  f : c.frag.size ≤ 1000000
  p : plen p ≤ 1000000
  n1 : -9223372036854775808 ≤ c.port
  n2 : c.port ≤ 9223372036854775807
  n3 : (Lib.itoa c.port).length ≤ 1000
theorem host_size (c : UrlC) (p : List (List UInt8)) (h : Small c p) : (hostP (c.flat p)).length ≤ 4000000 := by
  have h1 := h.u; have h2 := h.a; have h3 := h.h; have h4 := h.n3
  unfold hostP UrlC.flat
  simp only []
  split
  · rw [List.length_append, List.length_append, List.length_append, List.length_append, List.length_append, bl_length, bl_length]
    have q1 : (if bl c.pass ≠ [] then 58 :: bl c.pass else []).length ≤ c.pass.size + 1 := by split <;> simp [bl_length]
    have q2 : (if bl c.user ≠ [] ∨ bl c.pass ≠ [] then ([64] : List UInt8) else []).length ≤ 1 := by split <;> simp
    have q3 : (if c.port ≠ -1 then 58 :: Lib.itoa c.port else []).length ≤ 1001 := by split <;> simp; omega
    simp only [List.length_cons, List.length_nil]
    omega
  · simp
theorem dot_size (u : UrlS) : (dotP u).length ≤ 2 := by unfold dotP; split <;> simp
theorem bl_one (x : UInt8) : bl ⟨#[x]⟩ = [x] := rfl
theorem bl_two (x y : UInt8) : bl ⟨#[x, y]⟩ = [x, y] := rfl
theorem size_one (x : UInt8) : (⟨#[x]⟩ : ByteArray).size = 1 := rfl
theorem size_two (x y : UInt8) : (⟨#[x, y]⟩ : ByteArray).size = 2 := rfl
theorem Bs.put {w0 w : World} {B b : Nat} {c : UrlC} {acc : List UInt8} (h : Hid (Bs w0 B b c acc w)) (s : ByteArray) (n : Nat) (hn : s.size = n) (hl : acc.length ≤ 100000000) (hs : n ≤ 100000000) :
    Calls Tryz.prog 58 #[.pointer (some ⟨B, 0, none⟩), .string s] w fun e w' => e = .returned (.tuple #[.int .i64 s.size, .nilIface]) ∧ ∃ acc', Hid (acc' = acc ++ bl s) ∧ acc'.length = acc.length + n ∧ Hid (Bs w0 B b c acc' w') := by
  subst hn
  refine (Bs.write h s hl hs).mono ?_
  rintro e w' ⟨he, hb⟩
  exact ⟨he, _, rfl, by rw [List.length_append, bl_length], hb⟩
theorem Bs.putb {w0 w : World} {B b : Nat} {c : UrlC} {acc : List UInt8} (h : Hid (Bs w0 B b c acc w)) (x : UInt8) (v : Int) (hv : v = x.toNat) (hl : acc.length ≤ 100000000) :
    Calls Tryz.prog 59 #[.pointer (some ⟨B, 0, none⟩), .int .u8 v] w fun e w' => e = .returned .nilIface ∧ ∃ acc', Hid (acc' = acc ++ [x]) ∧ acc'.length = acc.length + 1 ∧ Hid (Bs w0 B b c acc' w') := by
  refine (Bs.byte h x v hv hl).mono ?_
  rintro e w' ⟨he, hb⟩
  exact ⟨he, _, rfl, by rw [List.length_append]; rfl, hb⟩
set_option maxHeartbeats 4000000 in
set_option maxRecDepth 100000 in
theorem url_Bare (c : UrlC) (p : List (List UInt8)) (base : Nat) (w : World) (HO : Hid (Own w base 9 c.path (strs p))) (HE : Hid (Env w)) (HZ : Hid (Small c p)) :
    Calls Tryz.prog 34 #[.agg c.cells.toArray] w fun e w' => (∃ t, e = .returned (.string t) ∧ Hid (bl t = bareS (c.flat p))) ∧ Hid (Bel w w') := by
  have HB0 := Lib.hid (Bs.new w c)
  have hcs : c.cells.toArray = #[.string c.scheme, .string c.user, .string c.pass, .string c.host, .bool c.hasHost, .int .i64 c.port, .bool c.opaq, c.path, .string c.query, .string c.frag, .bool c.hasQuery, .bool c.hasFrag] := rfl
  obtain ⟨A, n7, hpath⟩ := HO.out.shapeS
  have HPA := Lib.hid hpath
  have hone : c.path.oneCell' = true := by rw [hpath]; rfl
  have HPL : Hid (plen p ≤ 1000000) := HZ.out.p
  have hcell : Hid (∀ (W : World) (k : Nat) (x : List UInt8), Bel w W → p[k]? = some x → ∃ g, A = some ⟨g, 0, none⟩ ∧ W.cell? ⟨g, k, none⟩ = some (.string ⟨x.toArray⟩)) := fun W k x hW hk => by
    have hne : strs p ≠ [] := by
      intro e
      have := congrArg List.length e
      rw [strs_len] at this
      have h2 := (List.getElem?_eq_some_iff.1 hk).1
      simp at this
      rw [this] at h2
      simp at h2
    obtain ⟨g, c9, e, _, hr, _⟩ := HO.out.row hne
    rw [hpath] at e
    simp only [Value.slice.injEq] at e
    exact ⟨g, e.1, bel_cell hW (hr.2 k _ (by unfold strs; rw [List.getElem?_map, hk]; rfl)).1⟩
  have z1 := HZ.out.s
  have z2 := HZ.out.u
  have z3 := HZ.out.a
  have z4 := HZ.out.h
  have z5 := HZ.out.q
  have n1 := HZ.out.n1
  have n2 := HZ.out.n2
  have n3 := HZ.out.n3
  have HH := Lib.hid (host_size c p HZ.out)
  have HD := Lib.hid (dot_size (c.flat p))
  have HSG := Lib.hid (fun k => seg_le c.opaq p k)
  obtain ⟨zu, hzu, hzu2⟩ : ∃ z, c.user.toList.isEmpty = z ∧ (z = false ↔ bl c.user ≠ []) := ⟨_, rfl, by rw [toList_bl]; simp⟩
  obtain ⟨zp, hzp, hzp2⟩ : ∃ z, c.pass.toList.isEmpty = z ∧ (z = false ↔ bl c.pass ≠ []) := ⟨_, rfl, by rw [toList_bl]; simp⟩
  have HZU := Lib.hid hzu2
  have HZP := Lib.hid hzp2
  obtain ⟨hh, hhh⟩ : ∃ hh, c.hasHost = hh := ⟨_, rfl⟩
  obtain ⟨oo, hoo⟩ : ∃ oo, c.opaq = oo := ⟨_, rfl⟩
  obtain ⟨qq, hqq⟩ : ∃ qq, c.hasQuery = qq := ⟨_, rfl⟩
  have HHH := Lib.hid hhh
  have HOO := Lib.hid hoo
  have HQQ := Lib.hid hqq
  have HX0 : Hid (bareS (c.flat p) = (bl c.scheme ++ [58] ++ hostP (c.flat p)) ++ dotP (c.flat p) ++ p.flatMap (segP oo) ++ (if qq = true then 63 :: bl c.query else [])) := by
    unfold Hid; rw [← hoo, ← hqq]; exact bare_parts (c.flat p)
  rw [hoo] at HSG
  clear hzu2 hzp2 hpath hhh hoo hqq
  rw [hcs] at HB0 ⊢
  clear hcs
  have HCL : Hid (∀ {W : World} {acc : List UInt8}, Bs w (w.heap.size + 1) w.heap.size c acc W → (W.cell? ⟨w.heap.size, 0, none⟩ = some (.string c.scheme) ∧ W.cell? ⟨w.heap.size, 1, none⟩ = some (.string c.user) ∧ W.cell? ⟨w.heap.size, 2, none⟩ = some (.string c.pass) ∧ W.cell? ⟨w.heap.size, 3, none⟩ = some (.string c.host) ∧ W.cell? ⟨w.heap.size, 4, none⟩ = some (.bool hh) ∧ W.cell? ⟨w.heap.size, 5, none⟩ = some (.int .i64 c.port) ∧ W.cell? ⟨w.heap.size, 6, none⟩ = some (.bool oo) ∧ W.cell? ⟨w.heap.size, 7, none⟩ = some (.slice A p.length n7) ∧ W.cell? ⟨w.heap.size, 8, none⟩ = some (.string c.query) ∧ W.cell? ⟨w.heap.size, 10, none⟩ = some (.bool qq))) := fun {W acc} h => by
    obtain ⟨⟨q0, _⟩, ⟨q1, _⟩, ⟨q2, _⟩, ⟨q3, _⟩, ⟨q4, _⟩, ⟨q5, _⟩, ⟨q6, _⟩, ⟨q7, _⟩, ⟨q8, _⟩, _, ⟨q10, _⟩, _⟩ := h.cells
    rw [HHH.out] at q4
    rw [HOO.out] at q6
    rw [HPA.out] at q7
    rw [HQQ.out] at q10
    exact ⟨q0, q1, q2, q3, q4, q5, q6, q7, q8, q10⟩
  go_enter Tryz.func34, Tryz.ntmps34
  have hl0 : ([] : List UInt8).length = 0 := rfl
  have sz := ((by rw [ByteArray.size_append, size_one]) : (c.scheme ++ ⟨#[58]⟩).size = c.scheme.size + 1)
  go_wp2_with fail
  refine (Bs.put HB0 (c.scheme ++ ⟨#[58]⟩) (c.scheme.size + 1) sz (by omega) (by omega)).mono ?_
  rintro e w1 ⟨rfl, a1, HA1, hl1, HB1⟩
  clear sz
  have k4 := (HCL.out HB1.out).2.2.2.2.1
  simp only [List.length_nil, Nat.zero_add] at hl1
  have HS1 : Hid (a1 = bl c.scheme ++ [58]) := by unfold Hid; rw [HA1.out, List.nil_append, bl_append, bl_one]
  clear HB0 HA1 hl0
  go_upto_if 11 with (fail)
  go_cut [] (fun wc => ∃ acc, Hid (acc = bl c.scheme ++ [58] ++ hostP (c.flat p)) ∧ acc.length ≤ 6000000 ∧ Hid (Bs w (w.heap.size + 1) w.heap.size c acc wc))
  case first =>
    cases hh
    · go_wp2
      go_meet
      refine ⟨a1, ?_, by omega, HB1⟩
      unfold Hid hostP; rw [show (c.flat p).hasHost = false from HHH.out, if_neg Bool.false_ne_true, List.append_nil, HS1.out]
    · have HHP : Hid (hostP (c.flat p) = [47, 47] ++ bl c.user ++ (if bl c.pass ≠ [] then 58 :: bl c.pass else []) ++ (if bl c.user ≠ [] ∨ bl c.pass ≠ [] then [64] else []) ++ bl c.host ++ (if c.port ≠ -1 then 58 :: Lib.itoa c.port else [])) := by
        unfold Hid hostP; rw [if_pos (show (c.flat p).hasHost = true from HHH.out)]; rfl
      have k1 := (HCL.out HB1.out).2.1
      have sz := ((by rw [ByteArray.size_append, size_two]) : (⟨#[47, 47]⟩ ++ c.user).size = 2 + c.user.size)
      go_wp2_with fail
      refine (Bs.put HB1 (⟨#[47, 47]⟩ ++ c.user) (2 + c.user.size) sz (by omega) (by omega)).mono ?_
      rintro e w2 ⟨rfl, a2, HA2, hl2, HB2⟩
      clear sz
      have k2 := (HCL.out HB2.out).2.2.1
      have HS2 : Hid (a2 = a1 ++ ([47, 47] ++ bl c.user)) := by unfold Hid; rw [HA2.out, bl_append, bl_two]
      clear HA2 HB1 k1 k4
      go_upto_if 18 with (fail)
      go_cut [] (fun wc => ∃ acc, Hid (acc = a1 ++ ([47, 47] ++ bl c.user ++ (if bl c.pass ≠ [] then 58 :: bl c.pass else []))) ∧ acc.length ≤ 3000010 ∧ Hid (Bs w (w.heap.size + 1) w.heap.size c acc wc))
      case first =>
        cases zp
        · have HNE := Lib.hid (HZP.out.1 rfl)
          have sz := ((by rw [ByteArray.size_append, size_one]) : (⟨#[58]⟩ ++ c.pass).size = 1 + c.pass.size)
          go_wp2_with fail
          refine (Bs.put HB2 (⟨#[58]⟩ ++ c.pass) (1 + c.pass.size) sz (by omega) (by omega)).mono ?_
          rintro e w3 ⟨rfl, a3, HA3, hl3, HB3⟩
          clear sz
          go_wp2
          go_meet
          refine ⟨a3, ?_, by omega, HB3⟩
          unfold Hid; rw [HA3.out, HS2.out, if_pos HNE.out, bl_append, bl_one]; simp
        · have HEQ : Hid (bl c.pass = []) := Classical.byContradiction fun h => Bool.false_ne_true (HZP.out.2 h).symm
          go_wp2
          go_meet
          refine ⟨a2, ?_, by omega, HB2⟩
          unfold Hid; rw [HS2.out, if_neg (fun h => h HEQ.out)]; simp
      case rest =>
        obtain ⟨a3, HS3, hl3, HB3⟩ := hcut
        clear HB2 hl2 HS2 k2
        have k1 := (HCL.out HB3.out).2.1
        have k2 := (HCL.out HB3.out).2.2.1
        have hat : (zu = false ∧ (bl c.user ≠ [] ∨ bl c.pass ≠ [])) ∨ (zu = true ∧ zp = false ∧ (bl c.user ≠ [] ∨ bl c.pass ≠ [])) ∨ (zu = true ∧ zp = true ∧ ¬ (bl c.user ≠ [] ∨ bl c.pass ≠ [])) := by
          cases zu
          · exact .inl ⟨rfl, .inl (HZU.out.1 rfl)⟩
          · cases zp
            · exact .inr (.inl ⟨rfl, rfl, .inr (HZP.out.1 rfl)⟩)
            · refine .inr (.inr ⟨rfl, rfl, ?_⟩)
              rintro (h | h)
              · exact Bool.false_ne_true (HZU.out.2 h).symm
              · exact Bool.false_ne_true (HZP.out.2 h).symm
        obtain ⟨zt, hzt⟩ : ∃ z, (c.port != -1) = z := ⟨_, rfl⟩
        have HZT := Lib.hid hzt
        rcases hat with ⟨rfl, hat⟩ | ⟨rfl, rfl, hat⟩ | ⟨rfl, rfl, hat⟩
        · have HAT := Lib.hid hat
          clear hat
          go_wp2_with fail
          refine (Bs.putb HB3 64 _ rfl (by omega)).mono ?_
          rintro e w4 ⟨rfl, a4, HA4, hl4, HB4⟩
          have k3 := (HCL.out HB4.out).2.2.2.1
          have HS4 : Hid (a4 = a3 ++ (if bl c.user ≠ [] ∨ bl c.pass ≠ [] then [64] else [])) := by unfold Hid; rw [HA4.out, if_pos HAT.out]
          clear HA4
          clear HB3 k1 k2
          go_wp2_with fail
          refine (Bs.put HB4 (c.host) (c.host.size) rfl (by omega) (by omega)).mono ?_
          rintro e w5 ⟨rfl, a5, HA5, hl5, HB5⟩
          have k5 := (HCL.out HB5.out).2.2.2.2.2.1
          clear HB4 k3
          have HE1 := Lib.hid (HE.out.bel HB5.out.bel)
          cases zt
          · go_wp2
            go_meet
            refine ⟨a5, ?_, by omega, HB5⟩
            unfold Hid; rw [HHP.out, if_neg (show ¬ (c.port ≠ -1) by have := HZT.out; simpa using this), HA5.out, HS4.out, HS3.out, HS1.out]; simp
          · go_wp2_with fail
            refine (Tryz.strconv_Itoa c.port n1 n2 _ HE1.out.pow).mono ?_
            rintro e w6 ⟨rfl, kk, os, hw6⟩
            have HI := Lib.hid (show Bel w5 w6 by rw [hw6]; exact bel_grow _ kk os)
            clear hw6
            have HB6 := Lib.hid (HB5.out.step HI.out)
            have hiz : (⟨(Lib.itoa c.port).toArray⟩ : ByteArray).size ≤ 1000 := by rw [← bl_length, bl_mk]; exact n3
            clear HB5 k5 HI
            have sz := ((by rw [ByteArray.size_append, size_one]) : ((⟨#[58]⟩ : ByteArray) ++ ⟨(Lib.itoa c.port).toArray⟩).size = 1 + (⟨(Lib.itoa c.port).toArray⟩ : ByteArray).size)
            go_wp2_with fail
            refine (Bs.put HB6 ((⟨#[58]⟩ : ByteArray) ++ ⟨(Lib.itoa c.port).toArray⟩) (1 + (⟨(Lib.itoa c.port).toArray⟩ : ByteArray).size) sz (by omega) (by omega)).mono ?_
            rintro e w7 ⟨rfl, a7, HA7, hl7, HB7⟩
            clear sz
            go_wp2
            go_meet
            refine ⟨a7, ?_, by omega, HB7⟩
            unfold Hid; rw [HHP.out, if_pos (show c.port ≠ -1 by have := HZT.out; simpa using this), HA7.out, HA5.out, HS4.out, HS3.out, HS1.out, bl_append, bl_one]; simp [bl_mk]
        · have HAT := Lib.hid hat
          clear hat
          go_wp2_with fail
          refine (Bs.putb HB3 64 _ rfl (by omega)).mono ?_
          rintro e w4 ⟨rfl, a4, HA4, hl4, HB4⟩
          have k3 := (HCL.out HB4.out).2.2.2.1
          have HS4 : Hid (a4 = a3 ++ (if bl c.user ≠ [] ∨ bl c.pass ≠ [] then [64] else [])) := by unfold Hid; rw [HA4.out, if_pos HAT.out]
          clear HA4
          clear HB3 k1 k2
          go_wp2_with fail
          refine (Bs.put HB4 (c.host) (c.host.size) rfl (by omega) (by omega)).mono ?_
          rintro e w5 ⟨rfl, a5, HA5, hl5, HB5⟩
          have k5 := (HCL.out HB5.out).2.2.2.2.2.1
          clear HB4 k3
          have HE1 := Lib.hid (HE.out.bel HB5.out.bel)
          cases zt
          · go_wp2
            go_meet
            refine ⟨a5, ?_, by omega, HB5⟩
            unfold Hid; rw [HHP.out, if_neg (show ¬ (c.port ≠ -1) by have := HZT.out; simpa using this), HA5.out, HS4.out, HS3.out, HS1.out]; simp
          · go_wp2_with fail
            refine (Tryz.strconv_Itoa c.port n1 n2 _ HE1.out.pow).mono ?_
            rintro e w6 ⟨rfl, kk, os, hw6⟩
            have HI := Lib.hid (show Bel w5 w6 by rw [hw6]; exact bel_grow _ kk os)
            clear hw6
            have HB6 := Lib.hid (HB5.out.step HI.out)
            have hiz : (⟨(Lib.itoa c.port).toArray⟩ : ByteArray).size ≤ 1000 := by rw [← bl_length, bl_mk]; exact n3
            clear HB5 k5 HI
            have sz := ((by rw [ByteArray.size_append, size_one]) : ((⟨#[58]⟩ : ByteArray) ++ ⟨(Lib.itoa c.port).toArray⟩).size = 1 + (⟨(Lib.itoa c.port).toArray⟩ : ByteArray).size)
            go_wp2_with fail
            refine (Bs.put HB6 ((⟨#[58]⟩ : ByteArray) ++ ⟨(Lib.itoa c.port).toArray⟩) (1 + (⟨(Lib.itoa c.port).toArray⟩ : ByteArray).size) sz (by omega) (by omega)).mono ?_
            rintro e w7 ⟨rfl, a7, HA7, hl7, HB7⟩
            clear sz
            go_wp2
            go_meet
            refine ⟨a7, ?_, by omega, HB7⟩
            unfold Hid; rw [HHP.out, if_pos (show c.port ≠ -1 by have := HZT.out; simpa using this), HA7.out, HA5.out, HS4.out, HS3.out, HS1.out, bl_append, bl_one]; simp [bl_mk]
        · have HAT := Lib.hid hat
          clear hat
          have k3 := (HCL.out HB3.out).2.2.2.1
          have HS4 : Hid (a3 = a3 ++ (if bl c.user ≠ [] ∨ bl c.pass ≠ [] then [64] else [])) := by unfold Hid; rw [if_neg HAT.out, List.append_nil]
          have HB4 := HB3
          go_wp2_with fail
          refine (Bs.put HB4 (c.host) (c.host.size) rfl (by omega) (by omega)).mono ?_
          rintro e w5 ⟨rfl, a5, HA5, hl5, HB5⟩
          have k5 := (HCL.out HB5.out).2.2.2.2.2.1
          clear HB4 HB3 k3 k1 k2
          have HE1 := Lib.hid (HE.out.bel HB5.out.bel)
          cases zt
          · go_wp2
            go_meet
            refine ⟨a5, ?_, by omega, HB5⟩
            unfold Hid; rw [HHP.out, if_neg (show ¬ (c.port ≠ -1) by have := HZT.out; simpa using this), HA5.out, HS4.out, HS3.out, HS1.out]; simp
          · go_wp2_with fail
            refine (Tryz.strconv_Itoa c.port n1 n2 _ HE1.out.pow).mono ?_
            rintro e w6 ⟨rfl, kk, os, hw6⟩
            have HI := Lib.hid (show Bel w5 w6 by rw [hw6]; exact bel_grow _ kk os)
            clear hw6
            have HB6 := Lib.hid (HB5.out.step HI.out)
            have hiz : (⟨(Lib.itoa c.port).toArray⟩ : ByteArray).size ≤ 1000 := by rw [← bl_length, bl_mk]; exact n3
            clear HB5 k5 HI
            have sz := ((by rw [ByteArray.size_append, size_one]) : ((⟨#[58]⟩ : ByteArray) ++ ⟨(Lib.itoa c.port).toArray⟩).size = 1 + (⟨(Lib.itoa c.port).toArray⟩ : ByteArray).size)
            go_wp2_with fail
            refine (Bs.put HB6 ((⟨#[58]⟩ : ByteArray) ++ ⟨(Lib.itoa c.port).toArray⟩) (1 + (⟨(Lib.itoa c.port).toArray⟩ : ByteArray).size) sz (by omega) (by omega)).mono ?_
            rintro e w7 ⟨rfl, a7, HA7, hl7, HB7⟩
            clear sz
            go_wp2
            go_meet
            refine ⟨a7, ?_, by omega, HB7⟩
            unfold Hid; rw [HHP.out, if_pos (show c.port ≠ -1 by have := HZT.out; simpa using this), HA7.out, HA5.out, HS4.out, HS3.out, HS1.out, bl_append, bl_one]; simp [bl_mk]
  case rest =>
    obtain ⟨acc, HA, hl, HB1⟩ := hcut
    have k4 := (HCL.out HB1.out).2.2.2.2.1
    have k6 := (HCL.out HB1.out).2.2.2.2.2.2.1
    have k7 := (HCL.out HB1.out).2.2.2.2.2.2.2.1
    have HDP : Hid (dotP (c.flat p) = if hh = false ∧ oo = false ∧ 1 < p.length ∧ p.head? = some [] then [47, 46] else []) := by
      unfold Hid; rw [← HHH.out, ← HOO.out]; rfl
    go_upto_region 12 with (fail)
    go_cut [63] (fun v63 wd => ∃ z, v63 = .bool z ∧ Hid (dotP (c.flat p) = if z = true then [47, 46] else []) ∧ Hid (Bs w (w.heap.size + 1) w.heap.size c acc wd))
    case first =>
      cases hh
      · cases oo
        · by_cases hlt : 1 < p.length
          · obtain ⟨t, ht⟩ : ∃ t, p[0]? = some (bl t) := ⟨⟨p[0].toArray⟩, by rw [bl_mk, List.getElem?_eq_getElem (by omega)]⟩
            obtain ⟨ga, rfl, hc0⟩ := hcell.out _ 0 _ HB1.out.bel ht
            rw [mk_bl] at hc0
            obtain ⟨zt, hzt, hzt2⟩ : ∃ z, t.toList.isEmpty = z ∧ (z = true ↔ bl t = []) := ⟨_, rfl, by rw [toList_bl]; simp⟩
            have HZ1 := Lib.hid hzt2
            have HT0 := Lib.hid ht
            have HLT := Lib.hid hlt
            have q1 : (1 : Int) < p.length := by omega
            have q0 : (0 : Int) < p.length := by omega
            clear hzt2 ht hlt
            go_wp2
            go_meet
            refine ⟨zt, by first | rfl | (rw [hzt]), ?_, HB1⟩
            unfold Hid
            rw [HDP.out, List.head?_eq_getElem?, HT0.out]
            cases zt
            · rw [if_neg (fun h => by have := HZ1.out.2 (Option.some.inj h.2.2.2); cases this), if_neg Bool.false_ne_true]
            · rw [if_pos ⟨by trivial, by trivial, HLT.out, by rw [HZ1.out.1 (by trivial)]⟩, if_pos rfl]
          · have q1 : ¬ (1 : Int) < p.length := by omega
            have HLT := Lib.hid hlt
            clear hlt
            go_wp2
            go_meet
            exact ⟨false, rfl, by unfold Hid; rw [HDP.out, if_neg (fun h => HLT.out h.2.2.1), if_neg Bool.false_ne_true], HB1⟩
        · go_wp2
          go_meet
          exact ⟨false, rfl, by unfold Hid; rw [HDP.out, if_neg (fun h => by cases h.2.1), if_neg Bool.false_ne_true], HB1⟩
      · go_wp2
        go_meet
        exact ⟨false, rfl, by unfold Hid; rw [HDP.out, if_neg (fun h => by cases h.1), if_neg Bool.false_ne_true], HB1⟩
    case rest =>
      obtain ⟨z, rfl, HDZ, HB2⟩ := hcut
      clear HB1 k4 k6 k7
      go_upto_if 63 with (fail)
      go_cut [] (fun wd => ∃ acc2, Hid (acc2 = acc ++ dotP (c.flat p)) ∧ acc2.length ≤ 6000002 ∧ Hid (Bs w (w.heap.size + 1) w.heap.size c acc2 wd))
      case first =>
        cases z
        · go_wp2
          go_meet
          exact ⟨acc, by unfold Hid; rw [HDZ.out]; simp, by omega, HB2⟩
        · go_wp2_with fail
          refine (Bs.put HB2 (⟨#[47, 46]⟩) (2) rfl (by omega) (by omega)).mono ?_
          rintro e w3 ⟨rfl, a3, HA3, hl3, HB3⟩
          go_wp2
          go_meet
          exact ⟨a3, by unfold Hid; rw [HDZ.out, HA3.out, bl_two]; simp, by omega, HB3⟩
      case rest =>
        obtain ⟨acc2, HA2, hl2, HB3⟩ := hcut
        clear HB2 hl HDZ
        have k7 := (HCL.out HB3.out).2.2.2.2.2.2.2.1
        go_wp2
        clear k7
        go_loopg [68] p.length (fun gk v68 wr => ∃ (k : Nat) (acc3 : List UInt8), v68 = .int .i64 k ∧ k + gk = p.length ∧ Hid (acc3 = acc2 ++ (p.take k).flatMap (segP oo)) ∧ Hid (Bs w (w.heap.size + 1) w.heap.size c acc3 wr))
        case atStart => exact ⟨0, acc2, rfl, by omega, by unfold Hid; rw [List.take_zero, List.flatMap_nil, List.append_nil], HB3⟩
        case round =>
          obtain ⟨k, acc3, rfl, hk, HA3, HB4⟩ := hrel
          have hpn := Nat.le_trans (plen_ge p) HPL.out
          have hl3 : acc3.length ≤ 7000002 := by
            have h1 := HSG.out k; have h2 := HPL.out
            rw [HA3.out, List.length_append]; omega
          by_cases hlt : k < p.length
          · obtain ⟨t, ht⟩ : ∃ t, p[k]? = some (bl t) := ⟨⟨p[k].toArray⟩, by rw [bl_mk, List.getElem?_eq_getElem hlt]⟩
            obtain ⟨ga, rfl, hc0⟩ := hcell.out _ k _ HB4.out.bel ht
            rw [mk_bl] at hc0
            have HN := Lib.hid (seg_next oo p k _ ht)
            have htz : t.size ≤ 1000000 := by
              have h1 := HSG.out (k + 1); have h2 := HPL.out; have h3 := seg_ge oo (bl t)
              rw [HN.out, List.length_append] at h1
              rw [bl_length] at h3; omega
            have q1 : (k : Int) < p.length := by omega
            have k6 := (HCL.out HB4.out).2.2.2.2.2.2.1
            clear ht
            cases oo
            · go_wp2_with fail
              refine (Bs.putb HB4 47 _ rfl (by omega)).mono ?_
              rintro e w5 ⟨rfl, a5, HA5, hl5, HB5⟩
              go_wp2_with fail
              refine (Bs.put HB5 (t) (t.size) rfl (by omega) (by omega)).mono ?_
              rintro e w6 ⟨rfl, a6, HA6, hl6, HB6⟩
              go_wp2
              go_roundg (gk - 1)
              case measure => omega
              case rel => exact ⟨k + 1, a6, by go_num, by omega, by unfold Hid; rw [HN.out, ← List.append_assoc, ← HA3.out, HA6.out, HA5.out, List.append_assoc]; rfl, HB6⟩
            · go_wp2_with fail
              refine (Bs.put HB4 (t) (t.size) rfl (by omega) (by omega)).mono ?_
              rintro e w6 ⟨rfl, a6, HA6, hl6, HB6⟩
              go_wp2
              go_roundg (gk - 1)
              case measure => omega
              case rel => exact ⟨k + 1, a6, by go_num, by omega, by unfold Hid; rw [HN.out, ← List.append_assoc, ← HA3.out, HA6.out]; rfl, HB6⟩
          · have q1 : ¬ (k : Int) < p.length := by omega
            have HF : Hid (acc3 = (bl c.scheme ++ [58] ++ hostP (c.flat p)) ++ dotP (c.flat p) ++ p.flatMap (segP oo)) := by
              unfold Hid; rw [HA3.out, List.take_of_length_le (by omega), HA2.out, HA.out]
            have k10 := (HCL.out HB4.out).2.2.2.2.2.2.2.2.2
            have k8 := (HCL.out HB4.out).2.2.2.2.2.2.2.2.1
            cases qq
            · go_wp2_with fail
              refine (Bs.text HB4).mono ?_
              rintro e w9 ⟨⟨t, rfl, ht⟩, HBL⟩
              go_wp2
              go_ret
              exact ⟨⟨t, rfl, by unfold Hid; rw [HX0.out, ht.out, HF.out]; simp⟩, HBL⟩
            · have sz := ((by rw [ByteArray.size_append, size_one]) : (⟨#[63]⟩ ++ c.query).size = 1 + c.query.size)
              go_wp2_with fail
              refine (Bs.put HB4 (⟨#[63]⟩ ++ c.query) (1 + c.query.size) sz (by omega) (by omega)).mono ?_
              rintro e w5 ⟨rfl, a5, HA5, hl5, HB5⟩
              clear sz
              go_wp2_with fail
              refine (Bs.text HB5).mono ?_
              rintro e w9 ⟨⟨t, rfl, ht⟩, HBL⟩
              go_wp2
              go_ret
              exact ⟨⟨t, rfl, by unfold Hid; rw [HX0.out, ht.out, HA5.out, HF.out, bl_append, bl_one]; simp⟩, HBL⟩
end Go.Proofs.YtbpkkgaaeodimaaGreatDoor
namespace Go.Proofs.YtbpkkgaaeodimaaGreatDoor
open Go.RowKit

/-! The text of an address with its fragment; a path's copy; two slashes. -/
theorem bare_size (c : UrlC) (p : List (List UInt8)) (h : Small c p) : (bareS (c.flat p)).length ≤ 10000000 := by
  have h1 := h.s; have h2 := h.q; have h3 := host_size c p h; have h4 := dot_size (c.flat p); have h5 := seg_le c.opaq p p.length; have h6 := h.p
  rw [List.take_length] at h5
  rw [bare_parts]
  have q1 : (if (c.flat p).hasQuery = true then (63 : UInt8) :: (c.flat p).query else []).length ≤ 1000001 := by
    split
    · rw [List.length_cons, show (c.flat p).query = bl c.query from rfl, bl_length]; omega
    · simp
  rw [List.length_append, List.length_append, List.length_append, List.length_append, List.length_append, show (c.flat p).scheme = bl c.scheme from rfl, bl_length, show (c.flat p).path = p from rfl, show (c.flat p).opaq = c.opaq from rfl]
  simp only [List.length_cons, List.length_nil]
  omega
theorem at_row {w : World} {b : Nat} {c : UrlC} {ext : List Value} (h : RowAt w b (c.cells ++ ext)) : At12 w b c :=
  ⟨h.2 0 _ rfl, h.2 1 _ rfl, h.2 2 _ rfl, h.2 3 _ rfl, h.2 4 _ rfl, h.2 5 _ rfl, h.2 6 _ rfl, h.2 7 _ rfl, h.2 8 _ rfl, h.2 9 _ rfl, h.2 10 _ rfl, h.2 11 _ rfl⟩
set_option maxHeartbeats 1000000 in
set_option maxRecDepth 100000 in
theorem url_Text (c : UrlC) (p : List (List UInt8)) (base : Nat) (w : World) (HO : Hid (Own w base 9 c.path (strs p))) (HE : Hid (Env w)) (HZ : Hid (Small c p)) :
    Calls Tryz.prog 27 #[.agg c.cells.toArray] w fun e w' => (∃ t, e = .returned (.string t) ∧ Hid (bl t = textS (c.flat p)) ∧ t.size ≤ 16000000) ∧ Hid (Bel w w') := by
  have hone : c.path.oneCell' = true := by obtain ⟨A, n7, hpath⟩ := HO.out.shapeS; rw [hpath]; rfl
  have HB0 : Hid (Bel w (w.alloc (.cells c.cells.toArray 24))) := (Below.refl _ w).alloc (Nat.le_refl _) _
  have R0 : Hid (RowAt (w.alloc (.cells c.cells.toArray 24)) w.heap.size (c.cells ++ [])) := by rw [List.append_nil]; exact RowAt.new w c.cells.toArray 24
  have HQ := fun W (h : Hid (Bel w W)) => url_Bare c p base W (Lib.hid (HO.out.bel h.out)) (Lib.hid (HE.out.bel h.out)) HZ
  have HBS := Lib.hid (bare_size c p HZ.out)
  have hfz := HZ.out.f
  have HTX : Hid (textS (c.flat p) = bareS (c.flat p) ++ (if c.hasFrag = true then 35 :: bl c.frag else [])) := rfl
  have hcs : c.cells.toArray = #[.string c.scheme, .string c.user, .string c.pass, .string c.host, .bool c.hasHost, .int .i64 c.port, .bool c.opaq, c.path, .string c.query, .string c.frag, .bool c.hasQuery, .bool c.hasFrag] := rfl
  obtain ⟨ff, hff⟩ : ∃ ff, c.hasFrag = ff := ⟨_, rfl⟩
  have HFF := Lib.hid hff
  rw [hff] at HTX
  clear hff
  rw [hcs] at R0 HB0 ⊢
  go_enter Tryz.func27, Tryz.ntmps27
  go_upto_region 1 with (fail)
  obtain ⟨b, hb⟩ : ∃ b, w.heap.size = b := ⟨_, rfl⟩
  have HWB := Lib.hid hb
  rw [hb] at R0 ⊢
  clear hb hcs
  generalize (World.alloc w _) = w1 at *
  obtain ⟨⟨k0, _⟩, ⟨k1, _⟩, ⟨k2, _⟩, ⟨k3, _⟩, ⟨k4, _⟩, ⟨k5, _⟩, ⟨k6, _⟩, ⟨k7, _⟩, ⟨k8, _⟩, ⟨k9, _⟩, ⟨k10, _⟩, ⟨k11, _⟩⟩ := at_row R0.out
  go_wp2_with fail
  clear k0 k1 k2 k3 k4 k5 k6 k7 k8 k9 k10 k11
  refine (HQ _ HB0).mono ?_
  rintro e w2 ⟨⟨t, rfl, ht⟩, HB2⟩
  have HB3 := Lib.hid (bel_trans HB0.out HB2.out)
  have R2 := Lib.hid (R0.out.bel HB2.out)
  have htz : t.size ≤ 10000000 := by rw [← bl_length, ht.out]; exact HBS.out
  have k9 := (R2.out.2 9 _ rfl).1
  have k11 := (R2.out.2 11 (.bool c.hasFrag) rfl).1
  rw [HFF.out] at k11
  cases ff
  · go_wp2
    go_ret
    exact ⟨⟨t, rfl, by unfold Hid; rw [HTX.out, ht.out]; simp, by omega⟩, HB3⟩
  · go_wp2
    go_ret
    refine ⟨⟨_, rfl, by unfold Hid; rw [HTX.out, bl_append, bl_append, bl_one, ht.out]; simp, ?_⟩, HB3⟩
    rw [ByteArray.size_append, ByteArray.size_append, size_one]; omega
set_option maxHeartbeats 1000000 in
set_option maxRecDepth 100000 in
theorem slices_Clone (xv : Value) (p : List (List UInt8)) (base : Nat) (w : World) (hp : p.length ≤ 1000000) (HO : Hid (Own w base 9 xv (strs p))) :
    Calls Tryz.prog 53 #[xv] w fun e w' => (∃ v, e = .returned v ∧ Hid (Own w' w.heap.size 9 v (strs p))) ∧ Hid (Bel w w') := by
  have HX0 := Lib.hid ((ReadP.of HO.out).bel ((Below.refl _ w).alloc (Nat.le_refl _) (.cells #[] 9)))
  have HO0 := Lib.hid (Own.zero w w.heap.size (Nat.le_refl _))
  have HB0 : Hid (Below w.heap.size w (w.alloc (.cells #[] 9))) := (Below.refl _ w).alloc (Nat.le_refl _) _
  have hsz : w.heap.size ≤ (w.alloc (.cells #[] 9)).heap.size := by simp
  have q24 : ∀ (w : World) (a : Option Addr) (n c n' c' : Nat), (binOp .eql 22 (.slice a n c) (.slice none n' c')).run Tryz.prog w = .ok (.bool a.isNone) w := fun w a n c n' c' => Lib.run_eql_slice_nil w _ _ a n c n' c' Tryz.underlying22
  have hcase : (xv = .slice none 0 0 ∧ p = []) ∨ ∃ g n c, xv = .slice (some ⟨g, 0, none⟩) n c := by
    rcases ReadP.of HO.out with h | ⟨g, c, h, _⟩
    · exact .inl h
    · exact .inr ⟨g, _, c, h⟩
  rcases hcase with ⟨rfl, rfl⟩ | ⟨g, n, c, rfl⟩
  · clear HX0 HO0 HB0 hsz
    go_enter Tryz.func53, Tryz.ntmps53
    go_wp2
    go_ret
    exact ⟨⟨_, rfl, Own.nil _ _ _⟩, Below.refl _ _⟩
  · go_enter Tryz.func53, Tryz.ntmps53
    go_wp2_with (first | (at_builtin; go_must (refine app_read (w0 := w) w.heap.size rfl _ _ (by exact rfl) _ _ [] p (by exact rfl) (by exact rfl) HX0 HO0 HB0 hsz (by simp; omega) ?_); intro v1 w1 HO1 HB1 hs1))
    go_ret
    rw [List.nil_append] at HO1
    exact ⟨⟨_, rfl, HO1⟩, HB1⟩
end Go.Proofs.YtbpkkgaaeodimaaGreatDoor
