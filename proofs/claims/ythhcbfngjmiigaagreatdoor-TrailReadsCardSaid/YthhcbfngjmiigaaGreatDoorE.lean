import Derived.Test.YthhcbfngjmiigaaGreatDoorW
set_option linter.all false
namespace Go.Proofs.YthhcbfngjmiigaaGreatDoor
open Go Rx
set_option maxRecDepth 100000
def bkSVa : List SV := [.slice (.v 0) (.v 0) (.v 1), .slice (.v 1) (.v 2) (.v 3)] ++ List.replicate 18 (.slice .nil (.c 0) (.c 0))
def bkEnv (p : Nat) (O1 : Option Addr) (n1 c1 : Nat) (O2 : Option Addr) (n2 c2 : Nat) : Env := { n := [n1, c1, n2, c2, p], a := [O1, O2] }
variable {p : Nat} {O1 : Option Addr} {n1 c1 : Nat} {O2 : Option Addr} {n2 c2 : Nat} {w : World}

theorem stillInts0 (hb : w.heap[p]? = some (.cells (bkCells O1 n1 c1 O2 n2 c2).toArray 38 (0, 0))) :
    Calls Tryz.prog 31 #[.pointer (some ⟨p, 0, none⟩)] w fun e w' => e = .returned (.bool true) ∧ Pure0 w w' := by
  refine rx_enterK (M := fun x => x = p) Tryz.func31 rfl (fun _ => p) (bkEnv p O1 n1 c1 O2 n2 c2) [.ptr (.box 0 0)]
    (by simp [SV.den]) (ro := []) (own := []) (bx := [⟨0, 38, bkSVa⟩]) (nx := 1) (ar := [])
    (memB _ rfl (by rw [hb]; simp [boxObj, bkCells, bkSVa, bkEnv]) (by simp) (by simp) (by simp)) 29 rfl ?_
  intro a hs0
  have hs0' := hs0.to (bkEnv p O1 n1 c1 O2 n2 c2) ⟨29, [(0, .ptr (.box 0 0)), (0, .ptr (.at 4 0))], [⟨0, 38, bkSVa⟩], 1, []⟩ rfl rfl (by simp [enumS, bkEnv]) (by simp [bkSVa, bkEnv]) (by simp)
  refine run_sound mixed Γok [0, 2, 3, 10, 28] 50 [] ⟨_, hs0'⟩ (by cbv) (by simp) ?_
  intro a1 w1 hs1
  refine rx_loop (fun (_ : Unit) a' w' => a' = a1 ∧ w' = w1) (fun _ => 0) () ⟨rfl, rfl⟩ ?_
  rintro _ a2 w2 ⟨rfl, rfl⟩
  refine run_sound mixed Γok [0, 2, 3, 10, 28] 50 [false] hs1 (by cbv) (by simp) ?_
  intro a3 w3 hs3
  refine exit_in rfl rfl ?_
  refine run_sound mixed Γok [0, 2, 3, 10, 28] 50 [] hs3 (by cbv) (by simp) ?_
  intro a4 w4 hs4
  refine ret_at Γok (.base _) hs4 (by cbv) fun k hk => ⟨by simp, pure_box hk.kept ?_⟩
  have hp4 := pin hk (d := 0) (i := 0) (j := 4) (by simp) (by simp)
  have hbx := hk.box _ (List.mem_cons_self ..)
  simp [bkEnv] at hp4
  rw [hp4] at hbx
  rw [hbx, hb]
  simp [boxObj, bkCells, bkEnv]
theorem putInts0 (hb : w.heap[p]? = some (.cells (bkCells O1 n1 c1 O2 n2 c2).toArray 38 (0, 0))) :
    Calls Tryz.prog 43 #[.pointer (some ⟨p, 0, none⟩)] w fun e w' => e = .returned (.tuple #[]) ∧ Pure0 w w' := by
  refine rx_enterK (M := fun x => x = p) Tryz.func43 rfl (fun _ => p) (bkEnv p O1 n1 c1 O2 n2 c2) [.ptr (.box 0 0)]
    (by simp [SV.den]) (ro := []) (own := []) (bx := [⟨0, 38, bkSVa⟩]) (nx := 1) (ar := [])
    (memB _ rfl (by rw [hb]; simp [boxObj, bkCells, bkSVa, bkEnv]) (by simp) (by simp) (by simp)) 43 rfl ?_
  intro a hs0
  have hs0' := hs0.to (bkEnv p O1 n1 c1 O2 n2 c2) ⟨43, [(0, .ptr (.box 0 0)), (0, .ptr (.at 4 0))], [⟨0, 38, bkSVa⟩], 1, []⟩ rfl rfl (by simp [enumS, bkEnv]) (by simp [bkSVa, bkEnv]) (by simp)
  refine run_sound mixed Γok [0, 2, 3, 4, 11, 27] 50 [] ⟨_, hs0'⟩ (by cbv) (by simp) ?_
  intro a1 w1 hs1
  refine rx_loop (fun (_ : Unit) a' w' => a' = a1 ∧ w' = w1) (fun _ => 0) () ⟨rfl, rfl⟩ ?_
  rintro _ a2 w2 ⟨rfl, rfl⟩
  refine run_sound mixed Γok [0, 2, 3, 4, 11, 27] 50 [false] hs1 (by cbv) (by simp) ?_
  intro a3 w3 hs3
  refine exit_in rfl rfl ?_
  refine run_sound mixed Γok [0, 2, 3, 4, 11, 27] 50 [] hs3 (by cbv) (by simp) ?_
  intro a4 w4 hs4
  refine end_ok Γok hs4 (by cbv) fun k hk => ⟨by simp, pure_box hk.kept ?_⟩
  have hp4 := pin hk (d := 0) (i := 0) (j := 4) (by simp) (by simp)
  have hbx := hk.box _ (List.mem_cons_self ..)
  simp [bkEnv] at hp4
  rw [hp4] at hbx
  rw [hbx, hb]
  simp [boxObj, bkCells, bkEnv]
theorem growInts0 (hb : w.heap[p]? = some (.cells (bkCells O1 n1 c1 O2 n2 c2).toArray 38 (0, 0))) :
    Calls Tryz.prog 51 #[.pointer (some ⟨p, 0, none⟩)] w fun e w' => e = .returned (.slice none 0 0) ∧ Pure0 w w' := by
  refine rx_enterK (M := fun x => x = p) Tryz.func51 rfl (fun _ => p) (bkEnv p O1 n1 c1 O2 n2 c2) [.ptr (.box 0 0)]
    (by simp [SV.den]) (ro := []) (own := []) (bx := [⟨0, 38, bkSVa⟩]) (nx := 1) (ar := [])
    (memB _ rfl (by rw [hb]; simp [boxObj, bkCells, bkSVa, bkEnv]) (by simp) (by simp) (by simp)) 43 rfl ?_
  intro a hs0
  have hs0' := hs0.to (bkEnv p O1 n1 c1 O2 n2 c2) ⟨43, [(0, .ptr (.box 0 0)), (0, .ptr (.at 4 0))], [⟨0, 38, bkSVa⟩], 1, []⟩ rfl rfl (by simp [enumS, bkEnv]) (by simp [bkSVa, bkEnv]) (by simp)
  refine run_sound mixed Γok [0, 2, 3, 4, 5, 6, 13, 24] 50 [] ⟨_, hs0'⟩ (by cbv) (by simp) ?_
  intro a1 w1 hs1
  refine rx_loop (fun (_ : Unit) a' w' => a' = a1 ∧ w' = w1) (fun _ => 0) () ⟨rfl, rfl⟩ ?_
  rintro _ a2 w2 ⟨rfl, rfl⟩
  refine run_sound mixed Γok [0, 2, 3, 4, 5, 6, 13, 24] 50 [false] hs1 (by cbv) (by simp) ?_
  intro a3 w3 hs3
  refine exit_in rfl rfl ?_
  refine run_sound mixed Γok [0, 2, 3, 4, 5, 6, 13, 24] 50 [] hs3 (by cbv) (by simp) ?_
  intro a4 w4 hs4
  refine ret_at Γok (.base _) hs4 (by cbv) fun k hk => ⟨by simp, pure_box hk.kept ?_⟩
  have hp4 := pin hk (d := 0) (i := 0) (j := 4) (by simp) (by simp)
  have hbx := hk.box _ (List.mem_cons_self ..)
  simp [bkEnv] at hp4
  rw [hp4] at hbx
  rw [hbx, hb]
  simp [boxObj, bkCells, bkEnv]
theorem markedInts0 : Calls Tryz.prog 61 #[.slice none 0 0] w fun e w' => e = .returned (.bool true) ∧ Pure0 w w' := by
  refine rx_enter0 Tryz.func61 rfl {} [.slice .nil (.c 0) (.c 0)] rfl 23 rfl ?_
  intro a hs0
  refine run_sound mixed Γok [0, 2, 3, 7, 22] 50 [] hs0 (by cbv) (by simp) ?_
  intro a1 w1 hs1
  refine rx_loop (fun (_ : Unit) a' w' => a' = a1 ∧ w' = w1) (fun _ => 0) () ⟨rfl, rfl⟩ ?_
  rintro _ a2 w2 ⟨rfl, rfl⟩
  refine run_sound mixed Γok [0, 2, 3, 7, 22] 50 [false] hs1 (by cbv) (by simp) ?_
  intro a3 w3 hs3
  refine exit_in rfl rfl ?_
  refine run_sound mixed Γok [0, 2, 3, 7, 22] 50 [] hs3 (by cbv) (by simp) ?_
  intro a4 w4 hs4
  exact ret_at Γok (.base _) hs4 (by cbv) fun k hk => ⟨by simp, hk.kept⟩
theorem stillAccounts0 (hb : w.heap[p]? = some (.cells (bkCells O1 n1 c1 O2 n2 c2).toArray 38 (0, 0))) :
    Calls Tryz.prog 32 #[.pointer (some ⟨p, 0, none⟩)] w fun e w' => e = .returned (.bool true) ∧ Pure0 w w' := by
  refine rx_enterK (M := fun x => x = p) Tryz.func32 rfl (fun _ => p) (bkEnv p O1 n1 c1 O2 n2 c2) [.ptr (.box 0 0)]
    (by simp [SV.den]) (ro := []) (own := []) (bx := [⟨0, 38, bkSVa⟩]) (nx := 1) (ar := [])
    (memB _ rfl (by rw [hb]; simp [boxObj, bkCells, bkSVa, bkEnv]) (by simp) (by simp) (by simp)) 29 rfl ?_
  intro a hs0
  have hs0' := hs0.to (bkEnv p O1 n1 c1 O2 n2 c2) ⟨29, [(0, .ptr (.box 0 0)), (0, .ptr (.at 4 0))], [⟨0, 38, bkSVa⟩], 1, []⟩ rfl rfl (by simp [enumS, bkEnv]) (by simp [bkSVa, bkEnv]) (by simp)
  refine run_sound mixed Γok [0, 2, 3, 10, 28] 50 [] ⟨_, hs0'⟩ (by cbv) (by simp) ?_
  intro a1 w1 hs1
  refine rx_loop (fun (_ : Unit) a' w' => a' = a1 ∧ w' = w1) (fun _ => 0) () ⟨rfl, rfl⟩ ?_
  rintro _ a2 w2 ⟨rfl, rfl⟩
  refine run_sound mixed Γok [0, 2, 3, 10, 28] 50 [false] hs1 (by cbv) (by simp) ?_
  intro a3 w3 hs3
  refine exit_in rfl rfl ?_
  refine run_sound mixed Γok [0, 2, 3, 10, 28] 50 [] hs3 (by cbv) (by simp) ?_
  intro a4 w4 hs4
  refine ret_at Γok (.base _) hs4 (by cbv) fun k hk => ⟨by simp, pure_box hk.kept ?_⟩
  have hp4 := pin hk (d := 0) (i := 0) (j := 4) (by simp) (by simp)
  have hbx := hk.box _ (List.mem_cons_self ..)
  simp [bkEnv] at hp4
  rw [hp4] at hbx
  rw [hbx, hb]
  simp [boxObj, bkCells, bkEnv]
theorem putAccounts0 (hb : w.heap[p]? = some (.cells (bkCells O1 n1 c1 O2 n2 c2).toArray 38 (0, 0))) :
    Calls Tryz.prog 44 #[.pointer (some ⟨p, 0, none⟩)] w fun e w' => e = .returned (.tuple #[]) ∧ Pure0 w w' := by
  refine rx_enterK (M := fun x => x = p) Tryz.func44 rfl (fun _ => p) (bkEnv p O1 n1 c1 O2 n2 c2) [.ptr (.box 0 0)]
    (by simp [SV.den]) (ro := []) (own := []) (bx := [⟨0, 38, bkSVa⟩]) (nx := 1) (ar := [])
    (memB _ rfl (by rw [hb]; simp [boxObj, bkCells, bkSVa, bkEnv]) (by simp) (by simp) (by simp)) 43 rfl ?_
  intro a hs0
  have hs0' := hs0.to (bkEnv p O1 n1 c1 O2 n2 c2) ⟨43, [(0, .ptr (.box 0 0)), (0, .ptr (.at 4 0))], [⟨0, 38, bkSVa⟩], 1, []⟩ rfl rfl (by simp [enumS, bkEnv]) (by simp [bkSVa, bkEnv]) (by simp)
  refine run_sound mixed Γok [0, 2, 3, 4, 11, 27] 50 [] ⟨_, hs0'⟩ (by cbv) (by simp) ?_
  intro a1 w1 hs1
  refine rx_loop (fun (_ : Unit) a' w' => a' = a1 ∧ w' = w1) (fun _ => 0) () ⟨rfl, rfl⟩ ?_
  rintro _ a2 w2 ⟨rfl, rfl⟩
  refine run_sound mixed Γok [0, 2, 3, 4, 11, 27] 50 [false] hs1 (by cbv) (by simp) ?_
  intro a3 w3 hs3
  refine exit_in rfl rfl ?_
  refine run_sound mixed Γok [0, 2, 3, 4, 11, 27] 50 [] hs3 (by cbv) (by simp) ?_
  intro a4 w4 hs4
  refine end_ok Γok hs4 (by cbv) fun k hk => ⟨by simp, pure_box hk.kept ?_⟩
  have hp4 := pin hk (d := 0) (i := 0) (j := 4) (by simp) (by simp)
  have hbx := hk.box _ (List.mem_cons_self ..)
  simp [bkEnv] at hp4
  rw [hp4] at hbx
  rw [hbx, hb]
  simp [boxObj, bkCells, bkEnv]
theorem growAccounts0 (hb : w.heap[p]? = some (.cells (bkCells O1 n1 c1 O2 n2 c2).toArray 38 (0, 0))) :
    Calls Tryz.prog 52 #[.pointer (some ⟨p, 0, none⟩)] w fun e w' => e = .returned (.slice none 0 0) ∧ Pure0 w w' := by
  refine rx_enterK (M := fun x => x = p) Tryz.func52 rfl (fun _ => p) (bkEnv p O1 n1 c1 O2 n2 c2) [.ptr (.box 0 0)]
    (by simp [SV.den]) (ro := []) (own := []) (bx := [⟨0, 38, bkSVa⟩]) (nx := 1) (ar := [])
    (memB _ rfl (by rw [hb]; simp [boxObj, bkCells, bkSVa, bkEnv]) (by simp) (by simp) (by simp)) 43 rfl ?_
  intro a hs0
  have hs0' := hs0.to (bkEnv p O1 n1 c1 O2 n2 c2) ⟨43, [(0, .ptr (.box 0 0)), (0, .ptr (.at 4 0))], [⟨0, 38, bkSVa⟩], 1, []⟩ rfl rfl (by simp [enumS, bkEnv]) (by simp [bkSVa, bkEnv]) (by simp)
  refine run_sound mixed Γok [0, 2, 3, 4, 5, 6, 13, 24] 50 [] ⟨_, hs0'⟩ (by cbv) (by simp) ?_
  intro a1 w1 hs1
  refine rx_loop (fun (_ : Unit) a' w' => a' = a1 ∧ w' = w1) (fun _ => 0) () ⟨rfl, rfl⟩ ?_
  rintro _ a2 w2 ⟨rfl, rfl⟩
  refine run_sound mixed Γok [0, 2, 3, 4, 5, 6, 13, 24] 50 [false] hs1 (by cbv) (by simp) ?_
  intro a3 w3 hs3
  refine exit_in rfl rfl ?_
  refine run_sound mixed Γok [0, 2, 3, 4, 5, 6, 13, 24] 50 [] hs3 (by cbv) (by simp) ?_
  intro a4 w4 hs4
  refine ret_at Γok (.base _) hs4 (by cbv) fun k hk => ⟨by simp, pure_box hk.kept ?_⟩
  have hp4 := pin hk (d := 0) (i := 0) (j := 4) (by simp) (by simp)
  have hbx := hk.box _ (List.mem_cons_self ..)
  simp [bkEnv] at hp4
  rw [hp4] at hbx
  rw [hbx, hb]
  simp [boxObj, bkCells, bkEnv]
theorem markedAccounts0 : Calls Tryz.prog 62 #[.slice none 0 0] w fun e w' => e = .returned (.bool true) ∧ Pure0 w w' := by
  refine rx_enter0 Tryz.func62 rfl {} [.slice .nil (.c 0) (.c 0)] rfl 23 rfl ?_
  intro a hs0
  refine run_sound mixed Γok [0, 2, 3, 7, 22] 50 [] hs0 (by cbv) (by simp) ?_
  intro a1 w1 hs1
  refine rx_loop (fun (_ : Unit) a' w' => a' = a1 ∧ w' = w1) (fun _ => 0) () ⟨rfl, rfl⟩ ?_
  rintro _ a2 w2 ⟨rfl, rfl⟩
  refine run_sound mixed Γok [0, 2, 3, 7, 22] 50 [false] hs1 (by cbv) (by simp) ?_
  intro a3 w3 hs3
  refine exit_in rfl rfl ?_
  refine run_sound mixed Γok [0, 2, 3, 7, 22] 50 [] hs3 (by cbv) (by simp) ?_
  intro a4 w4 hs4
  exact ret_at Γok (.base _) hs4 (by cbv) fun k hk => ⟨by simp, hk.kept⟩
theorem stillBalances0 (hb : w.heap[p]? = some (.cells (bkCells O1 n1 c1 O2 n2 c2).toArray 38 (0, 0))) :
    Calls Tryz.prog 33 #[.pointer (some ⟨p, 0, none⟩)] w fun e w' => e = .returned (.bool true) ∧ Pure0 w w' := by
  refine rx_enterK (M := fun x => x = p) Tryz.func33 rfl (fun _ => p) (bkEnv p O1 n1 c1 O2 n2 c2) [.ptr (.box 0 0)]
    (by simp [SV.den]) (ro := []) (own := []) (bx := [⟨0, 38, bkSVa⟩]) (nx := 1) (ar := [])
    (memB _ rfl (by rw [hb]; simp [boxObj, bkCells, bkSVa, bkEnv]) (by simp) (by simp) (by simp)) 29 rfl ?_
  intro a hs0
  have hs0' := hs0.to (bkEnv p O1 n1 c1 O2 n2 c2) ⟨29, [(0, .ptr (.box 0 0)), (0, .ptr (.at 4 0))], [⟨0, 38, bkSVa⟩], 1, []⟩ rfl rfl (by simp [enumS, bkEnv]) (by simp [bkSVa, bkEnv]) (by simp)
  refine run_sound mixed Γok [0, 2, 3, 10, 28] 50 [] ⟨_, hs0'⟩ (by cbv) (by simp) ?_
  intro a1 w1 hs1
  refine rx_loop (fun (_ : Unit) a' w' => a' = a1 ∧ w' = w1) (fun _ => 0) () ⟨rfl, rfl⟩ ?_
  rintro _ a2 w2 ⟨rfl, rfl⟩
  refine run_sound mixed Γok [0, 2, 3, 10, 28] 50 [false] hs1 (by cbv) (by simp) ?_
  intro a3 w3 hs3
  refine exit_in rfl rfl ?_
  refine run_sound mixed Γok [0, 2, 3, 10, 28] 50 [] hs3 (by cbv) (by simp) ?_
  intro a4 w4 hs4
  refine ret_at Γok (.base _) hs4 (by cbv) fun k hk => ⟨by simp, pure_box hk.kept ?_⟩
  have hp4 := pin hk (d := 0) (i := 0) (j := 4) (by simp) (by simp)
  have hbx := hk.box _ (List.mem_cons_self ..)
  simp [bkEnv] at hp4
  rw [hp4] at hbx
  rw [hbx, hb]
  simp [boxObj, bkCells, bkEnv]
theorem putBalances0 (hb : w.heap[p]? = some (.cells (bkCells O1 n1 c1 O2 n2 c2).toArray 38 (0, 0))) :
    Calls Tryz.prog 45 #[.pointer (some ⟨p, 0, none⟩)] w fun e w' => e = .returned (.tuple #[]) ∧ Pure0 w w' := by
  refine rx_enterK (M := fun x => x = p) Tryz.func45 rfl (fun _ => p) (bkEnv p O1 n1 c1 O2 n2 c2) [.ptr (.box 0 0)]
    (by simp [SV.den]) (ro := []) (own := []) (bx := [⟨0, 38, bkSVa⟩]) (nx := 1) (ar := [])
    (memB _ rfl (by rw [hb]; simp [boxObj, bkCells, bkSVa, bkEnv]) (by simp) (by simp) (by simp)) 43 rfl ?_
  intro a hs0
  have hs0' := hs0.to (bkEnv p O1 n1 c1 O2 n2 c2) ⟨43, [(0, .ptr (.box 0 0)), (0, .ptr (.at 4 0))], [⟨0, 38, bkSVa⟩], 1, []⟩ rfl rfl (by simp [enumS, bkEnv]) (by simp [bkSVa, bkEnv]) (by simp)
  refine run_sound mixed Γok [0, 2, 3, 4, 11, 27] 50 [] ⟨_, hs0'⟩ (by cbv) (by simp) ?_
  intro a1 w1 hs1
  refine rx_loop (fun (_ : Unit) a' w' => a' = a1 ∧ w' = w1) (fun _ => 0) () ⟨rfl, rfl⟩ ?_
  rintro _ a2 w2 ⟨rfl, rfl⟩
  refine run_sound mixed Γok [0, 2, 3, 4, 11, 27] 50 [false] hs1 (by cbv) (by simp) ?_
  intro a3 w3 hs3
  refine exit_in rfl rfl ?_
  refine run_sound mixed Γok [0, 2, 3, 4, 11, 27] 50 [] hs3 (by cbv) (by simp) ?_
  intro a4 w4 hs4
  refine end_ok Γok hs4 (by cbv) fun k hk => ⟨by simp, pure_box hk.kept ?_⟩
  have hp4 := pin hk (d := 0) (i := 0) (j := 4) (by simp) (by simp)
  have hbx := hk.box _ (List.mem_cons_self ..)
  simp [bkEnv] at hp4
  rw [hp4] at hbx
  rw [hbx, hb]
  simp [boxObj, bkCells, bkEnv]
theorem growBalances0 (hb : w.heap[p]? = some (.cells (bkCells O1 n1 c1 O2 n2 c2).toArray 38 (0, 0))) :
    Calls Tryz.prog 53 #[.pointer (some ⟨p, 0, none⟩)] w fun e w' => e = .returned (.slice none 0 0) ∧ Pure0 w w' := by
  refine rx_enterK (M := fun x => x = p) Tryz.func53 rfl (fun _ => p) (bkEnv p O1 n1 c1 O2 n2 c2) [.ptr (.box 0 0)]
    (by simp [SV.den]) (ro := []) (own := []) (bx := [⟨0, 38, bkSVa⟩]) (nx := 1) (ar := [])
    (memB _ rfl (by rw [hb]; simp [boxObj, bkCells, bkSVa, bkEnv]) (by simp) (by simp) (by simp)) 43 rfl ?_
  intro a hs0
  have hs0' := hs0.to (bkEnv p O1 n1 c1 O2 n2 c2) ⟨43, [(0, .ptr (.box 0 0)), (0, .ptr (.at 4 0))], [⟨0, 38, bkSVa⟩], 1, []⟩ rfl rfl (by simp [enumS, bkEnv]) (by simp [bkSVa, bkEnv]) (by simp)
  refine run_sound mixed Γok [0, 2, 3, 4, 5, 6, 13, 24] 50 [] ⟨_, hs0'⟩ (by cbv) (by simp) ?_
  intro a1 w1 hs1
  refine rx_loop (fun (_ : Unit) a' w' => a' = a1 ∧ w' = w1) (fun _ => 0) () ⟨rfl, rfl⟩ ?_
  rintro _ a2 w2 ⟨rfl, rfl⟩
  refine run_sound mixed Γok [0, 2, 3, 4, 5, 6, 13, 24] 50 [false] hs1 (by cbv) (by simp) ?_
  intro a3 w3 hs3
  refine exit_in rfl rfl ?_
  refine run_sound mixed Γok [0, 2, 3, 4, 5, 6, 13, 24] 50 [] hs3 (by cbv) (by simp) ?_
  intro a4 w4 hs4
  refine ret_at Γok (.base _) hs4 (by cbv) fun k hk => ⟨by simp, pure_box hk.kept ?_⟩
  have hp4 := pin hk (d := 0) (i := 0) (j := 4) (by simp) (by simp)
  have hbx := hk.box _ (List.mem_cons_self ..)
  simp [bkEnv] at hp4
  rw [hp4] at hbx
  rw [hbx, hb]
  simp [boxObj, bkCells, bkEnv]
theorem markedBalances0 : Calls Tryz.prog 63 #[.slice none 0 0] w fun e w' => e = .returned (.bool true) ∧ Pure0 w w' := by
  refine rx_enter0 Tryz.func63 rfl {} [.slice .nil (.c 0) (.c 0)] rfl 23 rfl ?_
  intro a hs0
  refine run_sound mixed Γok [0, 2, 3, 7, 22] 50 [] hs0 (by cbv) (by simp) ?_
  intro a1 w1 hs1
  refine rx_loop (fun (_ : Unit) a' w' => a' = a1 ∧ w' = w1) (fun _ => 0) () ⟨rfl, rfl⟩ ?_
  rintro _ a2 w2 ⟨rfl, rfl⟩
  refine run_sound mixed Γok [0, 2, 3, 7, 22] 50 [false] hs1 (by cbv) (by simp) ?_
  intro a3 w3 hs3
  refine exit_in rfl rfl ?_
  refine run_sound mixed Γok [0, 2, 3, 7, 22] 50 [] hs3 (by cbv) (by simp) ?_
  intro a4 w4 hs4
  exact ret_at Γok (.base _) hs4 (by cbv) fun k hk => ⟨by simp, hk.kept⟩
theorem stillLines0 (hb : w.heap[p]? = some (.cells (bkCells O1 n1 c1 O2 n2 c2).toArray 38 (0, 0))) :
    Calls Tryz.prog 34 #[.pointer (some ⟨p, 0, none⟩)] w fun e w' => e = .returned (.bool true) ∧ Pure0 w w' := by
  refine rx_enterK (M := fun x => x = p) Tryz.func34 rfl (fun _ => p) (bkEnv p O1 n1 c1 O2 n2 c2) [.ptr (.box 0 0)]
    (by simp [SV.den]) (ro := []) (own := []) (bx := [⟨0, 38, bkSVa⟩]) (nx := 1) (ar := [])
    (memB _ rfl (by rw [hb]; simp [boxObj, bkCells, bkSVa, bkEnv]) (by simp) (by simp) (by simp)) 29 rfl ?_
  intro a hs0
  have hs0' := hs0.to (bkEnv p O1 n1 c1 O2 n2 c2) ⟨29, [(0, .ptr (.box 0 0)), (0, .ptr (.at 4 0))], [⟨0, 38, bkSVa⟩], 1, []⟩ rfl rfl (by simp [enumS, bkEnv]) (by simp [bkSVa, bkEnv]) (by simp)
  refine run_sound mixed Γok [0, 2, 3, 10, 28] 50 [] ⟨_, hs0'⟩ (by cbv) (by simp) ?_
  intro a1 w1 hs1
  refine rx_loop (fun (_ : Unit) a' w' => a' = a1 ∧ w' = w1) (fun _ => 0) () ⟨rfl, rfl⟩ ?_
  rintro _ a2 w2 ⟨rfl, rfl⟩
  refine run_sound mixed Γok [0, 2, 3, 10, 28] 50 [false] hs1 (by cbv) (by simp) ?_
  intro a3 w3 hs3
  refine exit_in rfl rfl ?_
  refine run_sound mixed Γok [0, 2, 3, 10, 28] 50 [] hs3 (by cbv) (by simp) ?_
  intro a4 w4 hs4
  refine ret_at Γok (.base _) hs4 (by cbv) fun k hk => ⟨by simp, pure_box hk.kept ?_⟩
  have hp4 := pin hk (d := 0) (i := 0) (j := 4) (by simp) (by simp)
  have hbx := hk.box _ (List.mem_cons_self ..)
  simp [bkEnv] at hp4
  rw [hp4] at hbx
  rw [hbx, hb]
  simp [boxObj, bkCells, bkEnv]
theorem putLines0 (hb : w.heap[p]? = some (.cells (bkCells O1 n1 c1 O2 n2 c2).toArray 38 (0, 0))) :
    Calls Tryz.prog 46 #[.pointer (some ⟨p, 0, none⟩)] w fun e w' => e = .returned (.tuple #[]) ∧ Pure0 w w' := by
  refine rx_enterK (M := fun x => x = p) Tryz.func46 rfl (fun _ => p) (bkEnv p O1 n1 c1 O2 n2 c2) [.ptr (.box 0 0)]
    (by simp [SV.den]) (ro := []) (own := []) (bx := [⟨0, 38, bkSVa⟩]) (nx := 1) (ar := [])
    (memB _ rfl (by rw [hb]; simp [boxObj, bkCells, bkSVa, bkEnv]) (by simp) (by simp) (by simp)) 43 rfl ?_
  intro a hs0
  have hs0' := hs0.to (bkEnv p O1 n1 c1 O2 n2 c2) ⟨43, [(0, .ptr (.box 0 0)), (0, .ptr (.at 4 0))], [⟨0, 38, bkSVa⟩], 1, []⟩ rfl rfl (by simp [enumS, bkEnv]) (by simp [bkSVa, bkEnv]) (by simp)
  refine run_sound mixed Γok [0, 2, 3, 4, 11, 27] 50 [] ⟨_, hs0'⟩ (by cbv) (by simp) ?_
  intro a1 w1 hs1
  refine rx_loop (fun (_ : Unit) a' w' => a' = a1 ∧ w' = w1) (fun _ => 0) () ⟨rfl, rfl⟩ ?_
  rintro _ a2 w2 ⟨rfl, rfl⟩
  refine run_sound mixed Γok [0, 2, 3, 4, 11, 27] 50 [false] hs1 (by cbv) (by simp) ?_
  intro a3 w3 hs3
  refine exit_in rfl rfl ?_
  refine run_sound mixed Γok [0, 2, 3, 4, 11, 27] 50 [] hs3 (by cbv) (by simp) ?_
  intro a4 w4 hs4
  refine end_ok Γok hs4 (by cbv) fun k hk => ⟨by simp, pure_box hk.kept ?_⟩
  have hp4 := pin hk (d := 0) (i := 0) (j := 4) (by simp) (by simp)
  have hbx := hk.box _ (List.mem_cons_self ..)
  simp [bkEnv] at hp4
  rw [hp4] at hbx
  rw [hbx, hb]
  simp [boxObj, bkCells, bkEnv]
theorem growLines0 (hb : w.heap[p]? = some (.cells (bkCells O1 n1 c1 O2 n2 c2).toArray 38 (0, 0))) :
    Calls Tryz.prog 54 #[.pointer (some ⟨p, 0, none⟩)] w fun e w' => e = .returned (.slice none 0 0) ∧ Pure0 w w' := by
  refine rx_enterK (M := fun x => x = p) Tryz.func54 rfl (fun _ => p) (bkEnv p O1 n1 c1 O2 n2 c2) [.ptr (.box 0 0)]
    (by simp [SV.den]) (ro := []) (own := []) (bx := [⟨0, 38, bkSVa⟩]) (nx := 1) (ar := [])
    (memB _ rfl (by rw [hb]; simp [boxObj, bkCells, bkSVa, bkEnv]) (by simp) (by simp) (by simp)) 43 rfl ?_
  intro a hs0
  have hs0' := hs0.to (bkEnv p O1 n1 c1 O2 n2 c2) ⟨43, [(0, .ptr (.box 0 0)), (0, .ptr (.at 4 0))], [⟨0, 38, bkSVa⟩], 1, []⟩ rfl rfl (by simp [enumS, bkEnv]) (by simp [bkSVa, bkEnv]) (by simp)
  refine run_sound mixed Γok [0, 2, 3, 4, 5, 6, 13, 24] 50 [] ⟨_, hs0'⟩ (by cbv) (by simp) ?_
  intro a1 w1 hs1
  refine rx_loop (fun (_ : Unit) a' w' => a' = a1 ∧ w' = w1) (fun _ => 0) () ⟨rfl, rfl⟩ ?_
  rintro _ a2 w2 ⟨rfl, rfl⟩
  refine run_sound mixed Γok [0, 2, 3, 4, 5, 6, 13, 24] 50 [false] hs1 (by cbv) (by simp) ?_
  intro a3 w3 hs3
  refine exit_in rfl rfl ?_
  refine run_sound mixed Γok [0, 2, 3, 4, 5, 6, 13, 24] 50 [] hs3 (by cbv) (by simp) ?_
  intro a4 w4 hs4
  refine ret_at Γok (.base _) hs4 (by cbv) fun k hk => ⟨by simp, pure_box hk.kept ?_⟩
  have hp4 := pin hk (d := 0) (i := 0) (j := 4) (by simp) (by simp)
  have hbx := hk.box _ (List.mem_cons_self ..)
  simp [bkEnv] at hp4
  rw [hp4] at hbx
  rw [hbx, hb]
  simp [boxObj, bkCells, bkEnv]
theorem markedLines0 : Calls Tryz.prog 64 #[.slice none 0 0] w fun e w' => e = .returned (.bool true) ∧ Pure0 w w' := by
  refine rx_enter0 Tryz.func64 rfl {} [.slice .nil (.c 0) (.c 0)] rfl 23 rfl ?_
  intro a hs0
  refine run_sound mixed Γok [0, 2, 3, 7, 22] 50 [] hs0 (by cbv) (by simp) ?_
  intro a1 w1 hs1
  refine rx_loop (fun (_ : Unit) a' w' => a' = a1 ∧ w' = w1) (fun _ => 0) () ⟨rfl, rfl⟩ ?_
  rintro _ a2 w2 ⟨rfl, rfl⟩
  refine run_sound mixed Γok [0, 2, 3, 7, 22] 50 [false] hs1 (by cbv) (by simp) ?_
  intro a3 w3 hs3
  refine exit_in rfl rfl ?_
  refine run_sound mixed Γok [0, 2, 3, 7, 22] 50 [] hs3 (by cbv) (by simp) ?_
  intro a4 w4 hs4
  exact ret_at Γok (.base _) hs4 (by cbv) fun k hk => ⟨by simp, hk.kept⟩
theorem stillJournals0 (hb : w.heap[p]? = some (.cells (bkCells O1 n1 c1 O2 n2 c2).toArray 38 (0, 0))) :
    Calls Tryz.prog 35 #[.pointer (some ⟨p, 0, none⟩)] w fun e w' => e = .returned (.bool true) ∧ Pure0 w w' := by
  refine rx_enterK (M := fun x => x = p) Tryz.func35 rfl (fun _ => p) (bkEnv p O1 n1 c1 O2 n2 c2) [.ptr (.box 0 0)]
    (by simp [SV.den]) (ro := []) (own := []) (bx := [⟨0, 38, bkSVa⟩]) (nx := 1) (ar := [])
    (memB _ rfl (by rw [hb]; simp [boxObj, bkCells, bkSVa, bkEnv]) (by simp) (by simp) (by simp)) 29 rfl ?_
  intro a hs0
  have hs0' := hs0.to (bkEnv p O1 n1 c1 O2 n2 c2) ⟨29, [(0, .ptr (.box 0 0)), (0, .ptr (.at 4 0))], [⟨0, 38, bkSVa⟩], 1, []⟩ rfl rfl (by simp [enumS, bkEnv]) (by simp [bkSVa, bkEnv]) (by simp)
  refine run_sound mixed Γok [0, 2, 3, 10, 28] 50 [] ⟨_, hs0'⟩ (by cbv) (by simp) ?_
  intro a1 w1 hs1
  refine rx_loop (fun (_ : Unit) a' w' => a' = a1 ∧ w' = w1) (fun _ => 0) () ⟨rfl, rfl⟩ ?_
  rintro _ a2 w2 ⟨rfl, rfl⟩
  refine run_sound mixed Γok [0, 2, 3, 10, 28] 50 [false] hs1 (by cbv) (by simp) ?_
  intro a3 w3 hs3
  refine exit_in rfl rfl ?_
  refine run_sound mixed Γok [0, 2, 3, 10, 28] 50 [] hs3 (by cbv) (by simp) ?_
  intro a4 w4 hs4
  refine ret_at Γok (.base _) hs4 (by cbv) fun k hk => ⟨by simp, pure_box hk.kept ?_⟩
  have hp4 := pin hk (d := 0) (i := 0) (j := 4) (by simp) (by simp)
  have hbx := hk.box _ (List.mem_cons_self ..)
  simp [bkEnv] at hp4
  rw [hp4] at hbx
  rw [hbx, hb]
  simp [boxObj, bkCells, bkEnv]
theorem putJournals0 (hb : w.heap[p]? = some (.cells (bkCells O1 n1 c1 O2 n2 c2).toArray 38 (0, 0))) :
    Calls Tryz.prog 40 #[.pointer (some ⟨p, 0, none⟩)] w fun e w' => e = .returned (.tuple #[]) ∧ Pure0 w w' := by
  refine rx_enterK (M := fun x => x = p) Tryz.func40 rfl (fun _ => p) (bkEnv p O1 n1 c1 O2 n2 c2) [.ptr (.box 0 0)]
    (by simp [SV.den]) (ro := []) (own := []) (bx := [⟨0, 38, bkSVa⟩]) (nx := 1) (ar := [])
    (memB _ rfl (by rw [hb]; simp [boxObj, bkCells, bkSVa, bkEnv]) (by simp) (by simp) (by simp)) 43 rfl ?_
  intro a hs0
  have hs0' := hs0.to (bkEnv p O1 n1 c1 O2 n2 c2) ⟨43, [(0, .ptr (.box 0 0)), (0, .ptr (.at 4 0))], [⟨0, 38, bkSVa⟩], 1, []⟩ rfl rfl (by simp [enumS, bkEnv]) (by simp [bkSVa, bkEnv]) (by simp)
  refine run_sound mixed Γok [0, 2, 3, 4, 11, 27] 50 [] ⟨_, hs0'⟩ (by cbv) (by simp) ?_
  intro a1 w1 hs1
  refine rx_loop (fun (_ : Unit) a' w' => a' = a1 ∧ w' = w1) (fun _ => 0) () ⟨rfl, rfl⟩ ?_
  rintro _ a2 w2 ⟨rfl, rfl⟩
  refine run_sound mixed Γok [0, 2, 3, 4, 11, 27] 50 [false] hs1 (by cbv) (by simp) ?_
  intro a3 w3 hs3
  refine exit_in rfl rfl ?_
  refine run_sound mixed Γok [0, 2, 3, 4, 11, 27] 50 [] hs3 (by cbv) (by simp) ?_
  intro a4 w4 hs4
  refine end_ok Γok hs4 (by cbv) fun k hk => ⟨by simp, pure_box hk.kept ?_⟩
  have hp4 := pin hk (d := 0) (i := 0) (j := 4) (by simp) (by simp)
  have hbx := hk.box _ (List.mem_cons_self ..)
  simp [bkEnv] at hp4
  rw [hp4] at hbx
  rw [hbx, hb]
  simp [boxObj, bkCells, bkEnv]
theorem growJournals0 (hb : w.heap[p]? = some (.cells (bkCells O1 n1 c1 O2 n2 c2).toArray 38 (0, 0))) :
    Calls Tryz.prog 55 #[.pointer (some ⟨p, 0, none⟩)] w fun e w' => e = .returned (.slice none 0 0) ∧ Pure0 w w' := by
  refine rx_enterK (M := fun x => x = p) Tryz.func55 rfl (fun _ => p) (bkEnv p O1 n1 c1 O2 n2 c2) [.ptr (.box 0 0)]
    (by simp [SV.den]) (ro := []) (own := []) (bx := [⟨0, 38, bkSVa⟩]) (nx := 1) (ar := [])
    (memB _ rfl (by rw [hb]; simp [boxObj, bkCells, bkSVa, bkEnv]) (by simp) (by simp) (by simp)) 43 rfl ?_
  intro a hs0
  have hs0' := hs0.to (bkEnv p O1 n1 c1 O2 n2 c2) ⟨43, [(0, .ptr (.box 0 0)), (0, .ptr (.at 4 0))], [⟨0, 38, bkSVa⟩], 1, []⟩ rfl rfl (by simp [enumS, bkEnv]) (by simp [bkSVa, bkEnv]) (by simp)
  refine run_sound mixed Γok [0, 2, 3, 4, 5, 6, 13, 24] 50 [] ⟨_, hs0'⟩ (by cbv) (by simp) ?_
  intro a1 w1 hs1
  refine rx_loop (fun (_ : Unit) a' w' => a' = a1 ∧ w' = w1) (fun _ => 0) () ⟨rfl, rfl⟩ ?_
  rintro _ a2 w2 ⟨rfl, rfl⟩
  refine run_sound mixed Γok [0, 2, 3, 4, 5, 6, 13, 24] 50 [false] hs1 (by cbv) (by simp) ?_
  intro a3 w3 hs3
  refine exit_in rfl rfl ?_
  refine run_sound mixed Γok [0, 2, 3, 4, 5, 6, 13, 24] 50 [] hs3 (by cbv) (by simp) ?_
  intro a4 w4 hs4
  refine ret_at Γok (.base _) hs4 (by cbv) fun k hk => ⟨by simp, pure_box hk.kept ?_⟩
  have hp4 := pin hk (d := 0) (i := 0) (j := 4) (by simp) (by simp)
  have hbx := hk.box _ (List.mem_cons_self ..)
  simp [bkEnv] at hp4
  rw [hp4] at hbx
  rw [hbx, hb]
  simp [boxObj, bkCells, bkEnv]
theorem markedJournals0 : Calls Tryz.prog 65 #[.slice none 0 0] w fun e w' => e = .returned (.bool true) ∧ Pure0 w w' := by
  refine rx_enter0 Tryz.func65 rfl {} [.slice .nil (.c 0) (.c 0)] rfl 23 rfl ?_
  intro a hs0
  refine run_sound mixed Γok [0, 2, 3, 7, 22] 50 [] hs0 (by cbv) (by simp) ?_
  intro a1 w1 hs1
  refine rx_loop (fun (_ : Unit) a' w' => a' = a1 ∧ w' = w1) (fun _ => 0) () ⟨rfl, rfl⟩ ?_
  rintro _ a2 w2 ⟨rfl, rfl⟩
  refine run_sound mixed Γok [0, 2, 3, 7, 22] 50 [false] hs1 (by cbv) (by simp) ?_
  intro a3 w3 hs3
  refine exit_in rfl rfl ?_
  refine run_sound mixed Γok [0, 2, 3, 7, 22] 50 [] hs3 (by cbv) (by simp) ?_
  intro a4 w4 hs4
  exact ret_at Γok (.base _) hs4 (by cbv) fun k hk => ⟨by simp, hk.kept⟩
theorem stillChanges0 (hb : w.heap[p]? = some (.cells (bkCells O1 n1 c1 O2 n2 c2).toArray 38 (0, 0))) :
    Calls Tryz.prog 36 #[.pointer (some ⟨p, 0, none⟩)] w fun e w' => e = .returned (.bool true) ∧ Pure0 w w' := by
  refine rx_enterK (M := fun x => x = p) Tryz.func36 rfl (fun _ => p) (bkEnv p O1 n1 c1 O2 n2 c2) [.ptr (.box 0 0)]
    (by simp [SV.den]) (ro := []) (own := []) (bx := [⟨0, 38, bkSVa⟩]) (nx := 1) (ar := [])
    (memB _ rfl (by rw [hb]; simp [boxObj, bkCells, bkSVa, bkEnv]) (by simp) (by simp) (by simp)) 29 rfl ?_
  intro a hs0
  have hs0' := hs0.to (bkEnv p O1 n1 c1 O2 n2 c2) ⟨29, [(0, .ptr (.box 0 0)), (0, .ptr (.at 4 0))], [⟨0, 38, bkSVa⟩], 1, []⟩ rfl rfl (by simp [enumS, bkEnv]) (by simp [bkSVa, bkEnv]) (by simp)
  refine run_sound mixed Γok [0, 2, 3, 10, 28] 50 [] ⟨_, hs0'⟩ (by cbv) (by simp) ?_
  intro a1 w1 hs1
  refine rx_loop (fun (_ : Unit) a' w' => a' = a1 ∧ w' = w1) (fun _ => 0) () ⟨rfl, rfl⟩ ?_
  rintro _ a2 w2 ⟨rfl, rfl⟩
  refine run_sound mixed Γok [0, 2, 3, 10, 28] 50 [false] hs1 (by cbv) (by simp) ?_
  intro a3 w3 hs3
  refine exit_in rfl rfl ?_
  refine run_sound mixed Γok [0, 2, 3, 10, 28] 50 [] hs3 (by cbv) (by simp) ?_
  intro a4 w4 hs4
  refine ret_at Γok (.base _) hs4 (by cbv) fun k hk => ⟨by simp, pure_box hk.kept ?_⟩
  have hp4 := pin hk (d := 0) (i := 0) (j := 4) (by simp) (by simp)
  have hbx := hk.box _ (List.mem_cons_self ..)
  simp [bkEnv] at hp4
  rw [hp4] at hbx
  rw [hbx, hb]
  simp [boxObj, bkCells, bkEnv]
theorem putChanges0 (hb : w.heap[p]? = some (.cells (bkCells O1 n1 c1 O2 n2 c2).toArray 38 (0, 0))) :
    Calls Tryz.prog 41 #[.pointer (some ⟨p, 0, none⟩)] w fun e w' => e = .returned (.tuple #[]) ∧ Pure0 w w' := by
  refine rx_enterK (M := fun x => x = p) Tryz.func41 rfl (fun _ => p) (bkEnv p O1 n1 c1 O2 n2 c2) [.ptr (.box 0 0)]
    (by simp [SV.den]) (ro := []) (own := []) (bx := [⟨0, 38, bkSVa⟩]) (nx := 1) (ar := [])
    (memB _ rfl (by rw [hb]; simp [boxObj, bkCells, bkSVa, bkEnv]) (by simp) (by simp) (by simp)) 43 rfl ?_
  intro a hs0
  have hs0' := hs0.to (bkEnv p O1 n1 c1 O2 n2 c2) ⟨43, [(0, .ptr (.box 0 0)), (0, .ptr (.at 4 0))], [⟨0, 38, bkSVa⟩], 1, []⟩ rfl rfl (by simp [enumS, bkEnv]) (by simp [bkSVa, bkEnv]) (by simp)
  refine run_sound mixed Γok [0, 2, 3, 4, 11, 27] 50 [] ⟨_, hs0'⟩ (by cbv) (by simp) ?_
  intro a1 w1 hs1
  refine rx_loop (fun (_ : Unit) a' w' => a' = a1 ∧ w' = w1) (fun _ => 0) () ⟨rfl, rfl⟩ ?_
  rintro _ a2 w2 ⟨rfl, rfl⟩
  refine run_sound mixed Γok [0, 2, 3, 4, 11, 27] 50 [false] hs1 (by cbv) (by simp) ?_
  intro a3 w3 hs3
  refine exit_in rfl rfl ?_
  refine run_sound mixed Γok [0, 2, 3, 4, 11, 27] 50 [] hs3 (by cbv) (by simp) ?_
  intro a4 w4 hs4
  refine end_ok Γok hs4 (by cbv) fun k hk => ⟨by simp, pure_box hk.kept ?_⟩
  have hp4 := pin hk (d := 0) (i := 0) (j := 4) (by simp) (by simp)
  have hbx := hk.box _ (List.mem_cons_self ..)
  simp [bkEnv] at hp4
  rw [hp4] at hbx
  rw [hbx, hb]
  simp [boxObj, bkCells, bkEnv]
theorem growChanges0 (hb : w.heap[p]? = some (.cells (bkCells O1 n1 c1 O2 n2 c2).toArray 38 (0, 0))) :
    Calls Tryz.prog 56 #[.pointer (some ⟨p, 0, none⟩)] w fun e w' => e = .returned (.slice none 0 0) ∧ Pure0 w w' := by
  refine rx_enterK (M := fun x => x = p) Tryz.func56 rfl (fun _ => p) (bkEnv p O1 n1 c1 O2 n2 c2) [.ptr (.box 0 0)]
    (by simp [SV.den]) (ro := []) (own := []) (bx := [⟨0, 38, bkSVa⟩]) (nx := 1) (ar := [])
    (memB _ rfl (by rw [hb]; simp [boxObj, bkCells, bkSVa, bkEnv]) (by simp) (by simp) (by simp)) 43 rfl ?_
  intro a hs0
  have hs0' := hs0.to (bkEnv p O1 n1 c1 O2 n2 c2) ⟨43, [(0, .ptr (.box 0 0)), (0, .ptr (.at 4 0))], [⟨0, 38, bkSVa⟩], 1, []⟩ rfl rfl (by simp [enumS, bkEnv]) (by simp [bkSVa, bkEnv]) (by simp)
  refine run_sound mixed Γok [0, 2, 3, 4, 5, 6, 13, 24] 50 [] ⟨_, hs0'⟩ (by cbv) (by simp) ?_
  intro a1 w1 hs1
  refine rx_loop (fun (_ : Unit) a' w' => a' = a1 ∧ w' = w1) (fun _ => 0) () ⟨rfl, rfl⟩ ?_
  rintro _ a2 w2 ⟨rfl, rfl⟩
  refine run_sound mixed Γok [0, 2, 3, 4, 5, 6, 13, 24] 50 [false] hs1 (by cbv) (by simp) ?_
  intro a3 w3 hs3
  refine exit_in rfl rfl ?_
  refine run_sound mixed Γok [0, 2, 3, 4, 5, 6, 13, 24] 50 [] hs3 (by cbv) (by simp) ?_
  intro a4 w4 hs4
  refine ret_at Γok (.base _) hs4 (by cbv) fun k hk => ⟨by simp, pure_box hk.kept ?_⟩
  have hp4 := pin hk (d := 0) (i := 0) (j := 4) (by simp) (by simp)
  have hbx := hk.box _ (List.mem_cons_self ..)
  simp [bkEnv] at hp4
  rw [hp4] at hbx
  rw [hbx, hb]
  simp [boxObj, bkCells, bkEnv]
theorem markedChanges0 : Calls Tryz.prog 66 #[.slice none 0 0] w fun e w' => e = .returned (.bool true) ∧ Pure0 w w' := by
  refine rx_enter0 Tryz.func66 rfl {} [.slice .nil (.c 0) (.c 0)] rfl 23 rfl ?_
  intro a hs0
  refine run_sound mixed Γok [0, 2, 3, 7, 22] 50 [] hs0 (by cbv) (by simp) ?_
  intro a1 w1 hs1
  refine rx_loop (fun (_ : Unit) a' w' => a' = a1 ∧ w' = w1) (fun _ => 0) () ⟨rfl, rfl⟩ ?_
  rintro _ a2 w2 ⟨rfl, rfl⟩
  refine run_sound mixed Γok [0, 2, 3, 7, 22] 50 [false] hs1 (by cbv) (by simp) ?_
  intro a3 w3 hs3
  refine exit_in rfl rfl ?_
  refine run_sound mixed Γok [0, 2, 3, 7, 22] 50 [] hs3 (by cbv) (by simp) ?_
  intro a4 w4 hs4
  exact ret_at Γok (.base _) hs4 (by cbv) fun k hk => ⟨by simp, hk.kept⟩
theorem stillConflicts0 (hb : w.heap[p]? = some (.cells (bkCells O1 n1 c1 O2 n2 c2).toArray 38 (0, 0))) :
    Calls Tryz.prog 37 #[.pointer (some ⟨p, 0, none⟩)] w fun e w' => e = .returned (.bool true) ∧ Pure0 w w' := by
  refine rx_enterK (M := fun x => x = p) Tryz.func37 rfl (fun _ => p) (bkEnv p O1 n1 c1 O2 n2 c2) [.ptr (.box 0 0)]
    (by simp [SV.den]) (ro := []) (own := []) (bx := [⟨0, 38, bkSVa⟩]) (nx := 1) (ar := [])
    (memB _ rfl (by rw [hb]; simp [boxObj, bkCells, bkSVa, bkEnv]) (by simp) (by simp) (by simp)) 29 rfl ?_
  intro a hs0
  have hs0' := hs0.to (bkEnv p O1 n1 c1 O2 n2 c2) ⟨29, [(0, .ptr (.box 0 0)), (0, .ptr (.at 4 0))], [⟨0, 38, bkSVa⟩], 1, []⟩ rfl rfl (by simp [enumS, bkEnv]) (by simp [bkSVa, bkEnv]) (by simp)
  refine run_sound mixed Γok [0, 2, 3, 10, 28] 50 [] ⟨_, hs0'⟩ (by cbv) (by simp) ?_
  intro a1 w1 hs1
  refine rx_loop (fun (_ : Unit) a' w' => a' = a1 ∧ w' = w1) (fun _ => 0) () ⟨rfl, rfl⟩ ?_
  rintro _ a2 w2 ⟨rfl, rfl⟩
  refine run_sound mixed Γok [0, 2, 3, 10, 28] 50 [false] hs1 (by cbv) (by simp) ?_
  intro a3 w3 hs3
  refine exit_in rfl rfl ?_
  refine run_sound mixed Γok [0, 2, 3, 10, 28] 50 [] hs3 (by cbv) (by simp) ?_
  intro a4 w4 hs4
  refine ret_at Γok (.base _) hs4 (by cbv) fun k hk => ⟨by simp, pure_box hk.kept ?_⟩
  have hp4 := pin hk (d := 0) (i := 0) (j := 4) (by simp) (by simp)
  have hbx := hk.box _ (List.mem_cons_self ..)
  simp [bkEnv] at hp4
  rw [hp4] at hbx
  rw [hbx, hb]
  simp [boxObj, bkCells, bkEnv]
theorem putConflicts0 (hb : w.heap[p]? = some (.cells (bkCells O1 n1 c1 O2 n2 c2).toArray 38 (0, 0))) :
    Calls Tryz.prog 47 #[.pointer (some ⟨p, 0, none⟩)] w fun e w' => e = .returned (.tuple #[]) ∧ Pure0 w w' := by
  refine rx_enterK (M := fun x => x = p) Tryz.func47 rfl (fun _ => p) (bkEnv p O1 n1 c1 O2 n2 c2) [.ptr (.box 0 0)]
    (by simp [SV.den]) (ro := []) (own := []) (bx := [⟨0, 38, bkSVa⟩]) (nx := 1) (ar := [])
    (memB _ rfl (by rw [hb]; simp [boxObj, bkCells, bkSVa, bkEnv]) (by simp) (by simp) (by simp)) 43 rfl ?_
  intro a hs0
  have hs0' := hs0.to (bkEnv p O1 n1 c1 O2 n2 c2) ⟨43, [(0, .ptr (.box 0 0)), (0, .ptr (.at 4 0))], [⟨0, 38, bkSVa⟩], 1, []⟩ rfl rfl (by simp [enumS, bkEnv]) (by simp [bkSVa, bkEnv]) (by simp)
  refine run_sound mixed Γok [0, 2, 3, 4, 11, 27] 50 [] ⟨_, hs0'⟩ (by cbv) (by simp) ?_
  intro a1 w1 hs1
  refine rx_loop (fun (_ : Unit) a' w' => a' = a1 ∧ w' = w1) (fun _ => 0) () ⟨rfl, rfl⟩ ?_
  rintro _ a2 w2 ⟨rfl, rfl⟩
  refine run_sound mixed Γok [0, 2, 3, 4, 11, 27] 50 [false] hs1 (by cbv) (by simp) ?_
  intro a3 w3 hs3
  refine exit_in rfl rfl ?_
  refine run_sound mixed Γok [0, 2, 3, 4, 11, 27] 50 [] hs3 (by cbv) (by simp) ?_
  intro a4 w4 hs4
  refine end_ok Γok hs4 (by cbv) fun k hk => ⟨by simp, pure_box hk.kept ?_⟩
  have hp4 := pin hk (d := 0) (i := 0) (j := 4) (by simp) (by simp)
  have hbx := hk.box _ (List.mem_cons_self ..)
  simp [bkEnv] at hp4
  rw [hp4] at hbx
  rw [hbx, hb]
  simp [boxObj, bkCells, bkEnv]
theorem growConflicts0 (hb : w.heap[p]? = some (.cells (bkCells O1 n1 c1 O2 n2 c2).toArray 38 (0, 0))) :
    Calls Tryz.prog 57 #[.pointer (some ⟨p, 0, none⟩)] w fun e w' => e = .returned (.slice none 0 0) ∧ Pure0 w w' := by
  refine rx_enterK (M := fun x => x = p) Tryz.func57 rfl (fun _ => p) (bkEnv p O1 n1 c1 O2 n2 c2) [.ptr (.box 0 0)]
    (by simp [SV.den]) (ro := []) (own := []) (bx := [⟨0, 38, bkSVa⟩]) (nx := 1) (ar := [])
    (memB _ rfl (by rw [hb]; simp [boxObj, bkCells, bkSVa, bkEnv]) (by simp) (by simp) (by simp)) 43 rfl ?_
  intro a hs0
  have hs0' := hs0.to (bkEnv p O1 n1 c1 O2 n2 c2) ⟨43, [(0, .ptr (.box 0 0)), (0, .ptr (.at 4 0))], [⟨0, 38, bkSVa⟩], 1, []⟩ rfl rfl (by simp [enumS, bkEnv]) (by simp [bkSVa, bkEnv]) (by simp)
  refine run_sound mixed Γok [0, 2, 3, 4, 5, 6, 13, 24] 50 [] ⟨_, hs0'⟩ (by cbv) (by simp) ?_
  intro a1 w1 hs1
  refine rx_loop (fun (_ : Unit) a' w' => a' = a1 ∧ w' = w1) (fun _ => 0) () ⟨rfl, rfl⟩ ?_
  rintro _ a2 w2 ⟨rfl, rfl⟩
  refine run_sound mixed Γok [0, 2, 3, 4, 5, 6, 13, 24] 50 [false] hs1 (by cbv) (by simp) ?_
  intro a3 w3 hs3
  refine exit_in rfl rfl ?_
  refine run_sound mixed Γok [0, 2, 3, 4, 5, 6, 13, 24] 50 [] hs3 (by cbv) (by simp) ?_
  intro a4 w4 hs4
  refine ret_at Γok (.base _) hs4 (by cbv) fun k hk => ⟨by simp, pure_box hk.kept ?_⟩
  have hp4 := pin hk (d := 0) (i := 0) (j := 4) (by simp) (by simp)
  have hbx := hk.box _ (List.mem_cons_self ..)
  simp [bkEnv] at hp4
  rw [hp4] at hbx
  rw [hbx, hb]
  simp [boxObj, bkCells, bkEnv]
theorem markedConflicts0 : Calls Tryz.prog 67 #[.slice none 0 0] w fun e w' => e = .returned (.bool true) ∧ Pure0 w w' := by
  refine rx_enter0 Tryz.func67 rfl {} [.slice .nil (.c 0) (.c 0)] rfl 23 rfl ?_
  intro a hs0
  refine run_sound mixed Γok [0, 2, 3, 7, 22] 50 [] hs0 (by cbv) (by simp) ?_
  intro a1 w1 hs1
  refine rx_loop (fun (_ : Unit) a' w' => a' = a1 ∧ w' = w1) (fun _ => 0) () ⟨rfl, rfl⟩ ?_
  rintro _ a2 w2 ⟨rfl, rfl⟩
  refine run_sound mixed Γok [0, 2, 3, 7, 22] 50 [false] hs1 (by cbv) (by simp) ?_
  intro a3 w3 hs3
  refine exit_in rfl rfl ?_
  refine run_sound mixed Γok [0, 2, 3, 7, 22] 50 [] hs3 (by cbv) (by simp) ?_
  intro a4 w4 hs4
  exact ret_at Γok (.base _) hs4 (by cbv) fun k hk => ⟨by simp, hk.kept⟩
theorem stillTrios0 (hb : w.heap[p]? = some (.cells (bkCells O1 n1 c1 O2 n2 c2).toArray 38 (0, 0))) :
    Calls Tryz.prog 38 #[.pointer (some ⟨p, 0, none⟩)] w fun e w' => e = .returned (.bool true) ∧ Pure0 w w' := by
  refine rx_enterK (M := fun x => x = p) Tryz.func38 rfl (fun _ => p) (bkEnv p O1 n1 c1 O2 n2 c2) [.ptr (.box 0 0)]
    (by simp [SV.den]) (ro := []) (own := []) (bx := [⟨0, 38, bkSVa⟩]) (nx := 1) (ar := [])
    (memB _ rfl (by rw [hb]; simp [boxObj, bkCells, bkSVa, bkEnv]) (by simp) (by simp) (by simp)) 29 rfl ?_
  intro a hs0
  have hs0' := hs0.to (bkEnv p O1 n1 c1 O2 n2 c2) ⟨29, [(0, .ptr (.box 0 0)), (0, .ptr (.at 4 0))], [⟨0, 38, bkSVa⟩], 1, []⟩ rfl rfl (by simp [enumS, bkEnv]) (by simp [bkSVa, bkEnv]) (by simp)
  refine run_sound mixed Γok [0, 2, 3, 10, 28] 50 [] ⟨_, hs0'⟩ (by cbv) (by simp) ?_
  intro a1 w1 hs1
  refine rx_loop (fun (_ : Unit) a' w' => a' = a1 ∧ w' = w1) (fun _ => 0) () ⟨rfl, rfl⟩ ?_
  rintro _ a2 w2 ⟨rfl, rfl⟩
  refine run_sound mixed Γok [0, 2, 3, 10, 28] 50 [false] hs1 (by cbv) (by simp) ?_
  intro a3 w3 hs3
  refine exit_in rfl rfl ?_
  refine run_sound mixed Γok [0, 2, 3, 10, 28] 50 [] hs3 (by cbv) (by simp) ?_
  intro a4 w4 hs4
  refine ret_at Γok (.base _) hs4 (by cbv) fun k hk => ⟨by simp, pure_box hk.kept ?_⟩
  have hp4 := pin hk (d := 0) (i := 0) (j := 4) (by simp) (by simp)
  have hbx := hk.box _ (List.mem_cons_self ..)
  simp [bkEnv] at hp4
  rw [hp4] at hbx
  rw [hbx, hb]
  simp [boxObj, bkCells, bkEnv]
theorem putTrios0 (hb : w.heap[p]? = some (.cells (bkCells O1 n1 c1 O2 n2 c2).toArray 38 (0, 0))) :
    Calls Tryz.prog 48 #[.pointer (some ⟨p, 0, none⟩)] w fun e w' => e = .returned (.tuple #[]) ∧ Pure0 w w' := by
  refine rx_enterK (M := fun x => x = p) Tryz.func48 rfl (fun _ => p) (bkEnv p O1 n1 c1 O2 n2 c2) [.ptr (.box 0 0)]
    (by simp [SV.den]) (ro := []) (own := []) (bx := [⟨0, 38, bkSVa⟩]) (nx := 1) (ar := [])
    (memB _ rfl (by rw [hb]; simp [boxObj, bkCells, bkSVa, bkEnv]) (by simp) (by simp) (by simp)) 43 rfl ?_
  intro a hs0
  have hs0' := hs0.to (bkEnv p O1 n1 c1 O2 n2 c2) ⟨43, [(0, .ptr (.box 0 0)), (0, .ptr (.at 4 0))], [⟨0, 38, bkSVa⟩], 1, []⟩ rfl rfl (by simp [enumS, bkEnv]) (by simp [bkSVa, bkEnv]) (by simp)
  refine run_sound mixed Γok [0, 2, 3, 4, 11, 27] 50 [] ⟨_, hs0'⟩ (by cbv) (by simp) ?_
  intro a1 w1 hs1
  refine rx_loop (fun (_ : Unit) a' w' => a' = a1 ∧ w' = w1) (fun _ => 0) () ⟨rfl, rfl⟩ ?_
  rintro _ a2 w2 ⟨rfl, rfl⟩
  refine run_sound mixed Γok [0, 2, 3, 4, 11, 27] 50 [false] hs1 (by cbv) (by simp) ?_
  intro a3 w3 hs3
  refine exit_in rfl rfl ?_
  refine run_sound mixed Γok [0, 2, 3, 4, 11, 27] 50 [] hs3 (by cbv) (by simp) ?_
  intro a4 w4 hs4
  refine end_ok Γok hs4 (by cbv) fun k hk => ⟨by simp, pure_box hk.kept ?_⟩
  have hp4 := pin hk (d := 0) (i := 0) (j := 4) (by simp) (by simp)
  have hbx := hk.box _ (List.mem_cons_self ..)
  simp [bkEnv] at hp4
  rw [hp4] at hbx
  rw [hbx, hb]
  simp [boxObj, bkCells, bkEnv]
theorem growTrios0 (hb : w.heap[p]? = some (.cells (bkCells O1 n1 c1 O2 n2 c2).toArray 38 (0, 0))) :
    Calls Tryz.prog 58 #[.pointer (some ⟨p, 0, none⟩)] w fun e w' => e = .returned (.slice none 0 0) ∧ Pure0 w w' := by
  refine rx_enterK (M := fun x => x = p) Tryz.func58 rfl (fun _ => p) (bkEnv p O1 n1 c1 O2 n2 c2) [.ptr (.box 0 0)]
    (by simp [SV.den]) (ro := []) (own := []) (bx := [⟨0, 38, bkSVa⟩]) (nx := 1) (ar := [])
    (memB _ rfl (by rw [hb]; simp [boxObj, bkCells, bkSVa, bkEnv]) (by simp) (by simp) (by simp)) 43 rfl ?_
  intro a hs0
  have hs0' := hs0.to (bkEnv p O1 n1 c1 O2 n2 c2) ⟨43, [(0, .ptr (.box 0 0)), (0, .ptr (.at 4 0))], [⟨0, 38, bkSVa⟩], 1, []⟩ rfl rfl (by simp [enumS, bkEnv]) (by simp [bkSVa, bkEnv]) (by simp)
  refine run_sound mixed Γok [0, 2, 3, 4, 5, 6, 13, 24] 50 [] ⟨_, hs0'⟩ (by cbv) (by simp) ?_
  intro a1 w1 hs1
  refine rx_loop (fun (_ : Unit) a' w' => a' = a1 ∧ w' = w1) (fun _ => 0) () ⟨rfl, rfl⟩ ?_
  rintro _ a2 w2 ⟨rfl, rfl⟩
  refine run_sound mixed Γok [0, 2, 3, 4, 5, 6, 13, 24] 50 [false] hs1 (by cbv) (by simp) ?_
  intro a3 w3 hs3
  refine exit_in rfl rfl ?_
  refine run_sound mixed Γok [0, 2, 3, 4, 5, 6, 13, 24] 50 [] hs3 (by cbv) (by simp) ?_
  intro a4 w4 hs4
  refine ret_at Γok (.base _) hs4 (by cbv) fun k hk => ⟨by simp, pure_box hk.kept ?_⟩
  have hp4 := pin hk (d := 0) (i := 0) (j := 4) (by simp) (by simp)
  have hbx := hk.box _ (List.mem_cons_self ..)
  simp [bkEnv] at hp4
  rw [hp4] at hbx
  rw [hbx, hb]
  simp [boxObj, bkCells, bkEnv]
theorem markedTrios0 : Calls Tryz.prog 68 #[.slice none 0 0] w fun e w' => e = .returned (.bool true) ∧ Pure0 w w' := by
  refine rx_enter0 Tryz.func68 rfl {} [.slice .nil (.c 0) (.c 0)] rfl 23 rfl ?_
  intro a hs0
  refine run_sound mixed Γok [0, 2, 3, 7, 22] 50 [] hs0 (by cbv) (by simp) ?_
  intro a1 w1 hs1
  refine rx_loop (fun (_ : Unit) a' w' => a' = a1 ∧ w' = w1) (fun _ => 0) () ⟨rfl, rfl⟩ ?_
  rintro _ a2 w2 ⟨rfl, rfl⟩
  refine run_sound mixed Γok [0, 2, 3, 7, 22] 50 [false] hs1 (by cbv) (by simp) ?_
  intro a3 w3 hs3
  refine exit_in rfl rfl ?_
  refine run_sound mixed Γok [0, 2, 3, 7, 22] 50 [] hs3 (by cbv) (by simp) ?_
  intro a4 w4 hs4
  exact ret_at Γok (.base _) hs4 (by cbv) fun k hk => ⟨by simp, hk.kept⟩
theorem stillPairs0 (hb : w.heap[p]? = some (.cells (bkCells O1 n1 c1 O2 n2 c2).toArray 38 (0, 0))) :
    Calls Tryz.prog 39 #[.pointer (some ⟨p, 0, none⟩)] w fun e w' => e = .returned (.bool true) ∧ Pure0 w w' := by
  refine rx_enterK (M := fun x => x = p) Tryz.func39 rfl (fun _ => p) (bkEnv p O1 n1 c1 O2 n2 c2) [.ptr (.box 0 0)]
    (by simp [SV.den]) (ro := []) (own := []) (bx := [⟨0, 38, bkSVa⟩]) (nx := 1) (ar := [])
    (memB _ rfl (by rw [hb]; simp [boxObj, bkCells, bkSVa, bkEnv]) (by simp) (by simp) (by simp)) 29 rfl ?_
  intro a hs0
  have hs0' := hs0.to (bkEnv p O1 n1 c1 O2 n2 c2) ⟨29, [(0, .ptr (.box 0 0)), (0, .ptr (.at 4 0))], [⟨0, 38, bkSVa⟩], 1, []⟩ rfl rfl (by simp [enumS, bkEnv]) (by simp [bkSVa, bkEnv]) (by simp)
  refine run_sound mixed Γok [0, 2, 3, 10, 28] 50 [] ⟨_, hs0'⟩ (by cbv) (by simp) ?_
  intro a1 w1 hs1
  refine rx_loop (fun (_ : Unit) a' w' => a' = a1 ∧ w' = w1) (fun _ => 0) () ⟨rfl, rfl⟩ ?_
  rintro _ a2 w2 ⟨rfl, rfl⟩
  refine run_sound mixed Γok [0, 2, 3, 10, 28] 50 [false] hs1 (by cbv) (by simp) ?_
  intro a3 w3 hs3
  refine exit_in rfl rfl ?_
  refine run_sound mixed Γok [0, 2, 3, 10, 28] 50 [] hs3 (by cbv) (by simp) ?_
  intro a4 w4 hs4
  refine ret_at Γok (.base _) hs4 (by cbv) fun k hk => ⟨by simp, pure_box hk.kept ?_⟩
  have hp4 := pin hk (d := 0) (i := 0) (j := 4) (by simp) (by simp)
  have hbx := hk.box _ (List.mem_cons_self ..)
  simp [bkEnv] at hp4
  rw [hp4] at hbx
  rw [hbx, hb]
  simp [boxObj, bkCells, bkEnv]
theorem putPairs0 (hb : w.heap[p]? = some (.cells (bkCells O1 n1 c1 O2 n2 c2).toArray 38 (0, 0))) :
    Calls Tryz.prog 49 #[.pointer (some ⟨p, 0, none⟩)] w fun e w' => e = .returned (.tuple #[]) ∧ Pure0 w w' := by
  refine rx_enterK (M := fun x => x = p) Tryz.func49 rfl (fun _ => p) (bkEnv p O1 n1 c1 O2 n2 c2) [.ptr (.box 0 0)]
    (by simp [SV.den]) (ro := []) (own := []) (bx := [⟨0, 38, bkSVa⟩]) (nx := 1) (ar := [])
    (memB _ rfl (by rw [hb]; simp [boxObj, bkCells, bkSVa, bkEnv]) (by simp) (by simp) (by simp)) 43 rfl ?_
  intro a hs0
  have hs0' := hs0.to (bkEnv p O1 n1 c1 O2 n2 c2) ⟨43, [(0, .ptr (.box 0 0)), (0, .ptr (.at 4 0))], [⟨0, 38, bkSVa⟩], 1, []⟩ rfl rfl (by simp [enumS, bkEnv]) (by simp [bkSVa, bkEnv]) (by simp)
  refine run_sound mixed Γok [0, 2, 3, 4, 11, 27] 50 [] ⟨_, hs0'⟩ (by cbv) (by simp) ?_
  intro a1 w1 hs1
  refine rx_loop (fun (_ : Unit) a' w' => a' = a1 ∧ w' = w1) (fun _ => 0) () ⟨rfl, rfl⟩ ?_
  rintro _ a2 w2 ⟨rfl, rfl⟩
  refine run_sound mixed Γok [0, 2, 3, 4, 11, 27] 50 [false] hs1 (by cbv) (by simp) ?_
  intro a3 w3 hs3
  refine exit_in rfl rfl ?_
  refine run_sound mixed Γok [0, 2, 3, 4, 11, 27] 50 [] hs3 (by cbv) (by simp) ?_
  intro a4 w4 hs4
  refine end_ok Γok hs4 (by cbv) fun k hk => ⟨by simp, pure_box hk.kept ?_⟩
  have hp4 := pin hk (d := 0) (i := 0) (j := 4) (by simp) (by simp)
  have hbx := hk.box _ (List.mem_cons_self ..)
  simp [bkEnv] at hp4
  rw [hp4] at hbx
  rw [hbx, hb]
  simp [boxObj, bkCells, bkEnv]
theorem growPairs0 (hb : w.heap[p]? = some (.cells (bkCells O1 n1 c1 O2 n2 c2).toArray 38 (0, 0))) :
    Calls Tryz.prog 59 #[.pointer (some ⟨p, 0, none⟩)] w fun e w' => e = .returned (.slice none 0 0) ∧ Pure0 w w' := by
  refine rx_enterK (M := fun x => x = p) Tryz.func59 rfl (fun _ => p) (bkEnv p O1 n1 c1 O2 n2 c2) [.ptr (.box 0 0)]
    (by simp [SV.den]) (ro := []) (own := []) (bx := [⟨0, 38, bkSVa⟩]) (nx := 1) (ar := [])
    (memB _ rfl (by rw [hb]; simp [boxObj, bkCells, bkSVa, bkEnv]) (by simp) (by simp) (by simp)) 43 rfl ?_
  intro a hs0
  have hs0' := hs0.to (bkEnv p O1 n1 c1 O2 n2 c2) ⟨43, [(0, .ptr (.box 0 0)), (0, .ptr (.at 4 0))], [⟨0, 38, bkSVa⟩], 1, []⟩ rfl rfl (by simp [enumS, bkEnv]) (by simp [bkSVa, bkEnv]) (by simp)
  refine run_sound mixed Γok [0, 2, 3, 4, 5, 6, 13, 24] 50 [] ⟨_, hs0'⟩ (by cbv) (by simp) ?_
  intro a1 w1 hs1
  refine rx_loop (fun (_ : Unit) a' w' => a' = a1 ∧ w' = w1) (fun _ => 0) () ⟨rfl, rfl⟩ ?_
  rintro _ a2 w2 ⟨rfl, rfl⟩
  refine run_sound mixed Γok [0, 2, 3, 4, 5, 6, 13, 24] 50 [false] hs1 (by cbv) (by simp) ?_
  intro a3 w3 hs3
  refine exit_in rfl rfl ?_
  refine run_sound mixed Γok [0, 2, 3, 4, 5, 6, 13, 24] 50 [] hs3 (by cbv) (by simp) ?_
  intro a4 w4 hs4
  refine ret_at Γok (.base _) hs4 (by cbv) fun k hk => ⟨by simp, pure_box hk.kept ?_⟩
  have hp4 := pin hk (d := 0) (i := 0) (j := 4) (by simp) (by simp)
  have hbx := hk.box _ (List.mem_cons_self ..)
  simp [bkEnv] at hp4
  rw [hp4] at hbx
  rw [hbx, hb]
  simp [boxObj, bkCells, bkEnv]
theorem markedPairs0 : Calls Tryz.prog 69 #[.slice none 0 0] w fun e w' => e = .returned (.bool true) ∧ Pure0 w w' := by
  refine rx_enter0 Tryz.func69 rfl {} [.slice .nil (.c 0) (.c 0)] rfl 23 rfl ?_
  intro a hs0
  refine run_sound mixed Γok [0, 2, 3, 7, 22] 50 [] hs0 (by cbv) (by simp) ?_
  intro a1 w1 hs1
  refine rx_loop (fun (_ : Unit) a' w' => a' = a1 ∧ w' = w1) (fun _ => 0) () ⟨rfl, rfl⟩ ?_
  rintro _ a2 w2 ⟨rfl, rfl⟩
  refine run_sound mixed Γok [0, 2, 3, 7, 22] 50 [false] hs1 (by cbv) (by simp) ?_
  intro a3 w3 hs3
  refine exit_in rfl rfl ?_
  refine run_sound mixed Γok [0, 2, 3, 7, 22] 50 [] hs3 (by cbv) (by simp) ?_
  intro a4 w4 hs4
  exact ret_at Γok (.base _) hs4 (by cbv) fun k hk => ⟨by simp, hk.kept⟩
end Go.Proofs.YthhcbfngjmiigaaGreatDoor
