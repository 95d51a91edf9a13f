/- Texts F1 to X1 of this proof, in one. -/
import Derived.Test.YtmddacjemlkhpaaW2
import Derived.Test.YtmddacjemlkhpaaProg
import Derived.KernelRfl
import Derived.Test.YtmddacjemlkhpaaW4
/- The program's own facts, told: its functions, what is told of each ahead, its types. -/
set_option maxRecDepth 10000
namespace Go.Eng.Try
open Go Go.Proofs Go.Eng
def h2 : FH := ⟨[], [], [(0, ⟨[], []⟩)]⟩
def h3 : FH := ⟨[2, 3, 5, 6, 8], [0, 1, 2, 3, 4, 5, 6, 7, 8, 9, 10, 11, 12, 13, 16, 43, 60, 78], [(0, ⟨[2, 3, 4], []⟩), (1, ⟨[16], []⟩), (2, ⟨[4], []⟩), (3, ⟨[5], []⟩), (4, ⟨[6, 7], []⟩), (5, ⟨[8, 9], []⟩), (6, ⟨[10], []⟩), (7, ⟨[11], []⟩), (8, ⟨[43], []⟩), (10, ⟨[], []⟩), (11, ⟨[12], []⟩), (12, ⟨[60], []⟩), (14, ⟨[], []⟩), (13, ⟨[12], []⟩), (9, ⟨[11], []⟩), (15, ⟨[13], []⟩), (16, ⟨[78], []⟩), (18, ⟨[], []⟩), (17, ⟨[13], []⟩), (19, ⟨[4], []⟩)]⟩
def h4 : FH := ⟨[2, 3, 5, 7], [0, 1, 2, 3, 4, 5, 6, 8, 9, 10, 11, 14, 22, 60, 61, 73, 79, 86], [(0, ⟨[2, 3, 4], []⟩), (1, ⟨[14], []⟩), (2, ⟨[4], []⟩), (3, ⟨[5, 6], []⟩), (4, ⟨[22], []⟩), (5, ⟨[4], []⟩), (6, ⟨[8], []⟩), (7, ⟨[9], []⟩), (8, ⟨[10], []⟩), (9, ⟨[11], []⟩), (10, ⟨[60], []⟩), (11, ⟨[61], []⟩), (12, ⟨[11], []⟩), (13, ⟨[73], []⟩), (14, ⟨[11], []⟩), (15, ⟨[79], []⟩), (16, ⟨[11], []⟩), (17, ⟨[86], []⟩), (18, ⟨[11], []⟩), (19, ⟨[4], []⟩)]⟩
def h5 : FH := ⟨[2, 3], [0, 1, 2, 3, 4, 5, 6, 22], [(0, ⟨[2, 3, 4], []⟩), (1, ⟨[5], [(0, []), (2, []), (3, []), (4, []), (1, [3]), (5, []), (6, []), (7, [])]⟩), (2, ⟨[6], []⟩), (3, ⟨[22], []⟩), (5, ⟨[5], []⟩), (4, ⟨[6], []⟩), (6, ⟨[4], []⟩)]⟩
def h6 : FH := ⟨[1, 2, 3], [0, 1, 2, 3, 4, 17], [(0, ⟨[1, 2], []⟩), (1, ⟨[3], [(0, []), (1, []), (2, []), (3, []), (4, []), (5, []), (8, []), (6, [1, 3]), (7, []), (9, [])]⟩), (2, ⟨[4], []⟩), (3, ⟨[17], []⟩), (5, ⟨[], [(0, []), (1, []), (2, []), (3, []), (4, []), (5, []), (6, []), (7, [1]), (8, [1]), (9, []), (10, []), (11, [])]⟩), (4, ⟨[4], []⟩), (6, ⟨[], []⟩)]⟩
def h7 : FH := ⟨[2, 3, 4], [0, 1, 2, 3, 4, 5, 8], [(0, ⟨[2, 3, 4, 5], []⟩), (1, ⟨[8], []⟩), (2, ⟨[5], []⟩), (3, ⟨[5], [(0, []), (2, []), (1, [2]), (3, []), (4, []), (5, []), (6, []), (7, [])]⟩)]⟩
def h8 : FH := ⟨[2, 3, 4], [0, 1, 2, 3, 4, 5, 8, 14], [(0, ⟨[2, 3, 4, 5], []⟩), (1, ⟨[8], []⟩), (2, ⟨[5], []⟩), (3, ⟨[14], []⟩), (4, ⟨[5], []⟩), (5, ⟨[5], []⟩)]⟩
def h9 : FH := ⟨[2, 3], [0, 1, 2, 3, 4, 5, 34, 39, 53], [(0, ⟨[2, 3, 4], []⟩), (1, ⟨[34], []⟩), (2, ⟨[4], []⟩), (3, ⟨[5], []⟩), (4, ⟨[39], []⟩), (6, ⟨[53], [(0, []), (1, []), (2, []), (3, []), (4, []), (5, []), (6, []), (7, []), (8, []), (9, []), (10, []), (11, [])]⟩), (7, ⟨[4], []⟩), (5, ⟨[5], []⟩), (8, ⟨[4], []⟩)]⟩
def h10 : FH := ⟨[1, 3, 5, 7, 9], [0, 1, 2, 3, 4, 5, 6, 7, 8, 10], [(0, ⟨[0], []⟩), (1, ⟨[1, 2], []⟩), (2, ⟨[3, 4], [(0, []), (6, []), (1, [0]), (2, []), (3, []), (4, []), (5, []), (7, []), (8, [])]⟩), (3, ⟨[5, 6], [(0, []), (6, []), (1, [0]), (2, []), (3, []), (4, []), (5, []), (7, []), (8, [])]⟩), (4, ⟨[7, 8], []⟩), (5, ⟨[10], [(0, []), (6, []), (1, [0]), (2, []), (3, []), (4, []), (5, []), (7, []), (8, [])]⟩), (6, ⟨[0], []⟩)]⟩
def h11 : FH := ⟨[1], [0, 1, 2], [(0, ⟨[1, 2], []⟩), (1, ⟨[2], []⟩)]⟩
def h12 : FH := ⟨[1, 2], [0, 1, 2], [(0, ⟨[1, 2], []⟩), (1, ⟨[], []⟩), (2, ⟨[], []⟩)]⟩
def h13 : FH := ⟨[1, 2], [0, 1, 2], [(0, ⟨[1, 2], []⟩), (1, ⟨[], []⟩), (2, ⟨[], []⟩)]⟩
def h14 : FH := ⟨[1, 4], [0, 1, 2, 3, 4, 20, 22, 23, 24, 25, 37], [(0, ⟨[1, 2], []⟩), (1, ⟨[20], []⟩), (2, ⟨[2], []⟩), (3, ⟨[22, 23, 24], []⟩), (4, ⟨[25], []⟩), (5, ⟨[4, 3], []⟩), (6, ⟨[37], []⟩), (7, ⟨[2], []⟩), (8, ⟨[24], []⟩), (9, ⟨[2], []⟩)]⟩
def h15 : FH := ⟨[2, 3], [0, 1, 2, 3, 4, 5, 6, 8, 27, 28, 32, 36, 40], [(0, ⟨[2, 3, 4, 5], []⟩), (1, ⟨[], []⟩), (2, ⟨[], []⟩), (3, ⟨[6], []⟩), (4, ⟨[8], []⟩), (5, ⟨[], []⟩), (6, ⟨[27], []⟩), (7, ⟨[28], []⟩), (8, ⟨[], []⟩), (9, ⟨[32], []⟩), (10, ⟨[], []⟩), (11, ⟨[36], []⟩), (12, ⟨[], []⟩), (13, ⟨[40], []⟩), (14, ⟨[], []⟩), (15, ⟨[], []⟩)]⟩
def h16 : FH := ⟨[1, 2, 5], [0, 1, 2, 3, 5, 13, 14, 15, 16], [(0, ⟨[1, 2], []⟩), (1, ⟨[], []⟩), (2, ⟨[3], []⟩), (3, ⟨[], []⟩), (4, ⟨[13, 14, 15], []⟩), (5, ⟨[16], []⟩), (6, ⟨[5], []⟩), (7, ⟨[], [(0, []), (1, []), (2, []), (3, [1]), (4, [1]), (5, []), (6, []), (7, [])]⟩), (8, ⟨[15], []⟩), (9, ⟨[], []⟩)]⟩
def h17 : FH := ⟨[1], [0, 1, 2, 3, 4, 5, 7, 24, 29, 44, 50, 62], [(0, ⟨[1, 2], []⟩), (1, ⟨[24], []⟩), (2, ⟨[2], []⟩), (3, ⟨[3], []⟩), (4, ⟨[29], []⟩), (6, ⟨[44], [(0, []), (1, []), (2, []), (3, []), (4, []), (5, []), (6, []), (7, []), (8, []), (9, []), (10, []), (11, []), (12, [])]⟩), (7, ⟨[2], []⟩), (5, ⟨[3], []⟩), (8, ⟨[4], []⟩), (9, ⟨[5], []⟩), (10, ⟨[50], []⟩), (12, ⟨[7], []⟩), (13, ⟨[62], []⟩), (14, ⟨[2], []⟩), (11, ⟨[5], []⟩), (15, ⟨[2], []⟩)]⟩
def h18 : FH := ⟨[2], [0, 2, 3], [(0, ⟨[2, 3], []⟩), (1, ⟨[3], []⟩)]⟩
def h19 : FH := ⟨[1], [0, 1, 2, 4, 5, 6, 7, 8, 34, 35, 48, 61, 74], [(0, ⟨[1, 2], []⟩), (1, ⟨[4], []⟩), (2, ⟨[5], []⟩), (3, ⟨[6], []⟩), (4, ⟨[7], []⟩), (5, ⟨[8], []⟩), (6, ⟨[34], []⟩), (7, ⟨[35], []⟩), (8, ⟨[2], []⟩), (9, ⟨[48], []⟩), (10, ⟨[2], []⟩), (11, ⟨[61], []⟩), (12, ⟨[2], []⟩), (13, ⟨[74], []⟩), (14, ⟨[2], []⟩), (15, ⟨[2], []⟩)]⟩
def h20 : FH := ⟨[2, 3, 4, 6], [0, 1, 2, 3, 4, 5, 6, 7, 8, 14, 21, 49, 61, 67, 77, 84, 91, 103, 116], [(0, ⟨[2, 3, 4, 5], []⟩), (1, ⟨[6], []⟩), (2, ⟨[7], []⟩), (3, ⟨[14], []⟩), (11, ⟨[61], []⟩), (12, ⟨[67], []⟩), (13, ⟨[5], []⟩), (14, ⟨[], []⟩), (15, ⟨[], []⟩), (16, ⟨[77], []⟩), (17, ⟨[84], []⟩), (18, ⟨[5], []⟩), (19, ⟨[91], []⟩), (20, ⟨[5], []⟩), (21, ⟨[], [(0, []), (1, []), (2, []), (3, []), (4, [1]), (5, [1]), (6, []), (7, []), (8, [])]⟩), (22, ⟨[103], []⟩), (23, ⟨[116], []⟩), (24, ⟨[5], []⟩), (25, ⟨[], []⟩), (4, ⟨[21], []⟩), (5, ⟨[5], []⟩), (6, ⟨[8], []⟩), (7, ⟨[49], [(0, []), (1, []), (2, []), (3, []), (4, []), (5, []), (6, []), (7, []), (8, []), (9, []), (10, []), (11, []), (12, []), (13, []), (14, []), (15, []), (16, [])]⟩), (8, ⟨[], []⟩), (9, ⟨[], []⟩), (10, ⟨[], []⟩), (26, ⟨[5], []⟩)]⟩
def h21 : FH := ⟨[2, 3], [0, 1, 2, 3, 4], [(0, ⟨[2, 3, 4], []⟩), (1, ⟨[4], []⟩)]⟩
def h22 : FH := ⟨[2, 3], [0, 1, 2, 3, 4], [(0, ⟨[2, 3, 4], []⟩), (1, ⟨[4], []⟩)]⟩
def h23 : FH := ⟨[0], [0], [(0, ⟨[0], []⟩), (1, ⟨[], []⟩)]⟩
def h24 : FH := ⟨[2], [0, 2], [(0, ⟨[2], []⟩), (1, ⟨[], []⟩)]⟩
def h25 : FH := ⟨[1, 2, 3], [0, 1, 2, 3], [(0, ⟨[1, 2], []⟩), (1, ⟨[3], []⟩), (2, ⟨[], []⟩), (3, ⟨[], []⟩), (4, ⟨[], []⟩)]⟩
def h26 : FH := ⟨[1], [0, 1, 2], [(0, ⟨[1, 2], []⟩), (1, ⟨[2], []⟩)]⟩
def h27 : FH := ⟨[], [0, 1, 4], [(0, ⟨[4], []⟩), (1, ⟨[4], []⟩)]⟩
def h28 : FH := ⟨[1, 5], [0, 1, 2, 3, 5, 15, 23, 24, 25, 26], [(0, ⟨[1, 2], []⟩), (1, ⟨[3], []⟩), (2, ⟨[15], []⟩), (3, ⟨[3], []⟩), (4, ⟨[23, 24, 25], []⟩), (5, ⟨[26], []⟩), (6, ⟨[5], []⟩), (7, ⟨[3], []⟩), (8, ⟨[25], []⟩), (9, ⟨[2], []⟩)]⟩
def h29 : FH := ⟨[1], [0, 1, 2, 4], [(0, ⟨[1, 2], []⟩), (1, ⟨[4], []⟩), (2, ⟨[2], []⟩)]⟩
def h30 : FH := ⟨[1], [0, 1, 2, 3], [(0, ⟨[1, 2, 3], []⟩), (1, ⟨[2, 3], []⟩)]⟩
def h31 : FH := ⟨[], [0, 1, 3], [(0, ⟨[3], []⟩), (1, ⟨[], []⟩)]⟩
def h32 : FH := ⟨[], [0, 2, 5], [(0, ⟨[2], []⟩), (1, ⟨[5], []⟩), (2, ⟨[], []⟩)]⟩
def h33 : FH := ⟨[], [0, 1, 5], [(0, ⟨[5], []⟩), (1, ⟨[], []⟩)]⟩
def h34 : FH := ⟨[1], [0, 1, 2, 3, 4, 5, 6, 25, 26, 35, 44, 53], [(0, ⟨[1, 2], []⟩), (1, ⟨[3, 4, 5, 6], [(0, []), (1, []), (2, []), (3, []), (4, []), (5, []), (6, []), (7, []), (8, []), (9, []), (11, []), (12, []), (13, []), (14, []), (15, []), (10, [5, 12, 15]), (16, [5, 12]), (17, []), (18, []), (19, []), (20, [])]⟩), (2, ⟨[25], []⟩), (3, ⟨[26], []⟩), (4, ⟨[2], []⟩), (5, ⟨[35], []⟩), (6, ⟨[2], []⟩), (7, ⟨[44], []⟩), (8, ⟨[2], []⟩), (9, ⟨[53], []⟩), (10, ⟨[2], []⟩), (11, ⟨[2], []⟩)]⟩
def h35 : FH := ⟨[], [0], [(0, ⟨[], [(0, []), (1, []), (2, []), (3, []), (4, []), (5, []), (6, []), (7, []), (8, []), (9, []), (10, []), (11, [])]⟩), (1, ⟨[], [(0, []), (1, []), (2, []), (3, []), (4, []), (5, []), (6, []), (7, []), (8, []), (9, []), (10, []), (11, []), (12, []), (13, []), (14, []), (15, []), (16, []), (17, []), (18, []), (19, [])]⟩)]⟩
def h36 : FH := ⟨[], [0], [(0, ⟨[], [(0, []), (1, []), (2, []), (3, []), (4, []), (5, []), (6, []), (7, [5]), (8, []), (9, []), (10, [])]⟩), (1, ⟨[], []⟩), (2, ⟨[], [(0, []), (1, []), (2, []), (3, []), (4, []), (5, []), (6, []), (7, []), (8, []), (9, []), (10, []), (11, [5]), (12, [5]), (13, []), (14, []), (15, []), (16, []), (17, [])]⟩)]⟩
def h37 : FH := ⟨[], [0], [(0, ⟨[], [(0, []), (1, []), (2, []), (3, []), (4, []), (5, []), (6, []), (7, []), (8, []), (9, []), (10, []), (11, []), (12, []), (13, []), (14, []), (15, []), (16, []), (17, []), (18, []), (19, [17]), (20, []), (21, []), (22, [])]⟩), (1, ⟨[], [(0, []), (1, []), (2, []), (3, []), (4, []), (5, []), (6, []), (7, []), (8, []), (9, []), (10, []), (11, []), (12, []), (13, []), (14, []), (15, []), (16, []), (17, []), (18, []), (19, []), (20, []), (21, []), (22, []), (23, [])]⟩)]⟩
def h38 : FH := ⟨[], [0, 2, 56], [(0, ⟨[], [(0, []), (1, []), (2, []), (3, []), (4, []), (5, []), (6, []), (7, []), (8, []), (9, []), (10, []), (11, []), (12, []), (13, [])]⟩), (1, ⟨[2], [(0, []), (1, []), (2, []), (3, []), (4, []), (5, []), (6, []), (7, []), (8, []), (9, []), (10, []), (11, []), (12, []), (13, []), (14, [])]⟩), (2, ⟨[56], [(0, []), (1, []), (2, []), (3, []), (4, []), (5, []), (6, []), (7, []), (8, []), (9, []), (10, []), (11, []), (12, []), (13, []), (14, []), (15, []), (16, []), (17, []), (18, []), (19, []), (20, []), (21, []), (22, []), (23, []), (24, []), (25, [])]⟩), (3, ⟨[], []⟩), (4, ⟨[], []⟩), (5, ⟨[], []⟩)]⟩
def h39 : FH := ⟨[1, 2], [0, 1, 2], [(0, ⟨[1, 2], []⟩), (1, ⟨[], []⟩), (2, ⟨[], []⟩)]⟩
def h40 : FH := ⟨[1, 2], [0, 1, 2], [(0, ⟨[1, 2], []⟩), (1, ⟨[], []⟩), (2, ⟨[], []⟩)]⟩
def h41 : FH := ⟨[1], [0, 1, 2, 3, 4, 15, 27], [(0, ⟨[1, 2], []⟩), (1, ⟨[3], []⟩), (2, ⟨[15], []⟩), (3, ⟨[3], []⟩), (4, ⟨[4], []⟩), (5, ⟨[27], []⟩), (7, ⟨[3], []⟩), (6, ⟨[4], []⟩), (8, ⟨[2], []⟩)]⟩
def h42 : FH := ⟨[1], [0, 1, 2, 3, 4], [(0, ⟨[1, 2, 3], []⟩), (1, ⟨[4], []⟩), (2, ⟨[], []⟩), (3, ⟨[2, 3], []⟩)]⟩
def h43 : FH := ⟨[1], [0, 1, 2], [(0, ⟨[1, 2], []⟩), (1, ⟨[2], []⟩)]⟩
def h44 : FH := ⟨[2, 3], [0, 1, 2, 3, 4], [(0, ⟨[2, 3, 4], []⟩), (1, ⟨[4], []⟩)]⟩
def h45 : FH := ⟨[1], [0, 1, 2], [(0, ⟨[1, 2], []⟩), (1, ⟨[2], []⟩)]⟩
def h46 : FH := ⟨[], [0, 1, 4, 5, 7, 8, 9, 16], [(0, ⟨[4], []⟩), (1, ⟨[7, 8], []⟩), (2, ⟨[9], []⟩), (3, ⟨[5], []⟩), (4, ⟨[16], []⟩), (5, ⟨[4], []⟩), (6, ⟨[8], []⟩), (7, ⟨[4], []⟩)]⟩
def h47 : FH := ⟨[2], [0, 1, 2, 4, 5, 6], [(0, ⟨[2, 4, 5], []⟩), (1, ⟨[], []⟩), (2, ⟨[], []⟩), (3, ⟨[6], []⟩), (4, ⟨[], []⟩), (5, ⟨[], []⟩)]⟩
def h48 : FH := ⟨[3], [0, 1, 3], [(0, ⟨[3], []⟩), (1, ⟨[], []⟩), (2, ⟨[], []⟩), (3, ⟨[], []⟩), (4, ⟨[], []⟩), (5, ⟨[], []⟩), (6, ⟨[], []⟩), (7, ⟨[], []⟩), (8, ⟨[], []⟩), (9, ⟨[], []⟩), (10, ⟨[], []⟩), (11, ⟨[], []⟩), (12, ⟨[], []⟩), (13, ⟨[], []⟩)]⟩
def h49 : FH := ⟨[1], [0, 1, 2], [(0, ⟨[1, 2], []⟩), (1, ⟨[2], []⟩)]⟩
def h50 : FH := ⟨[], [0, 2], [(0, ⟨[2], []⟩), (1, ⟨[2], [(0, []), (1, []), (2, []), (3, []), (4, []), (5, []), (6, []), (7, []), (8, []), (9, []), (10, []), (11, []), (12, []), (13, [])]⟩)]⟩
def h51 : FH := ⟨[1, 2], [0, 1, 2], [(0, ⟨[1, 2], []⟩), (1, ⟨[], [(0, []), (1, []), (3, []), (4, []), (2, [4]), (5, []), (6, []), (7, [])]⟩)]⟩
def h52 : FH := ⟨[3], [0, 1, 3], [(0, ⟨[3], []⟩), (1, ⟨[], []⟩), (2, ⟨[], []⟩), (3, ⟨[], []⟩), (4, ⟨[], []⟩), (5, ⟨[], []⟩), (6, ⟨[], []⟩), (7, ⟨[], []⟩), (8, ⟨[], []⟩), (9, ⟨[], []⟩), (10, ⟨[], []⟩), (11, ⟨[], []⟩), (12, ⟨[], []⟩), (13, ⟨[], []⟩)]⟩
def h53 : FH := ⟨[], [0, 2, 3, 8], [(0, ⟨[2, 3], []⟩), (1, ⟨[8], []⟩), (2, ⟨[2, 3], [(0, []), (1, []), (2, []), (3, []), (4, []), (5, [])]⟩), (3, ⟨[2, 3], []⟩)]⟩
def h54 : FH := ⟨[], [0, 1, 4, 5, 10, 14, 25], [(0, ⟨[4], []⟩), (1, ⟨[10], []⟩), (2, ⟨[4], []⟩), (3, ⟨[5], []⟩), (4, ⟨[14], []⟩), (6, ⟨[25], [(0, []), (1, []), (2, []), (3, []), (4, []), (5, []), (6, []), (7, []), (8, [])]⟩), (7, ⟨[4], []⟩), (5, ⟨[5], []⟩), (8, ⟨[4], []⟩)]⟩
def h55 : FH := ⟨[], [0, 1, 3], [(0, ⟨[3], []⟩), (1, ⟨[], []⟩)]⟩
def h56 : FH := ⟨[], [0, 2, 5], [(0, ⟨[2], []⟩), (1, ⟨[5], []⟩), (2, ⟨[], []⟩)]⟩
def h57 : FH := ⟨[], [0, 1, 4, 5, 16], [(0, ⟨[4, 5], []⟩), (1, ⟨[16], []⟩), (2, ⟨[], []⟩), (3, ⟨[], []⟩)]⟩
def h58 : FH := ⟨[3], [0, 1, 3], [(0, ⟨[3], []⟩), (1, ⟨[], []⟩), (2, ⟨[], []⟩)]⟩
def h59 : FH := ⟨[], [0, 1, 4, 5, 16], [(0, ⟨[4, 5], []⟩), (1, ⟨[16], []⟩), (2, ⟨[], []⟩), (3, ⟨[], []⟩)]⟩
def h60 : FH := ⟨[], [0, 2, 4], [(0, ⟨[2], []⟩), (1, ⟨[4], []⟩), (2, ⟨[2], []⟩), (3, ⟨[2], []⟩)]⟩
def h61 : FH := ⟨[], [0, 1, 4, 5, 19], [(0, ⟨[4, 5], []⟩), (1, ⟨[19], []⟩), (2, ⟨[], []⟩), (3, ⟨[], []⟩)]⟩
def h62 : FH := ⟨[3], [0, 1, 3], [(0, ⟨[3], []⟩), (1, ⟨[], []⟩), (2, ⟨[], []⟩)]⟩
def h63 : FH := ⟨[], [0, 1, 4, 5, 19], [(0, ⟨[4, 5], []⟩), (1, ⟨[19], []⟩), (2, ⟨[], []⟩), (3, ⟨[], []⟩)]⟩
def h64 : FH := ⟨[], [0, 1, 4, 5, 11], [(0, ⟨[4, 5], []⟩), (1, ⟨[11], []⟩), (2, ⟨[4, 5], []⟩), (3, ⟨[4, 5], []⟩)]⟩
def h65 : FH := ⟨[], [0, 1, 2, 7, 10, 17, 18, 19, 20], [(0, ⟨[10], []⟩), (1, ⟨[], []⟩), (2, ⟨[], []⟩), (3, ⟨[17, 18, 19], []⟩), (4, ⟨[20], []⟩), (5, ⟨[7], []⟩), (6, ⟨[], []⟩), (7, ⟨[19], []⟩)]⟩
def h66 : FH := ⟨[], [0, 1, 4, 5, 8], [(0, ⟨[4, 5], []⟩), (1, ⟨[8], []⟩), (2, ⟨[4, 5], []⟩), (3, ⟨[4, 5], []⟩)]⟩
def h67 : FH := ⟨[], [0, 2, 3, 9], [(0, ⟨[2, 3], []⟩), (1, ⟨[9], []⟩), (2, ⟨[2, 3], []⟩), (3, ⟨[2, 3], []⟩)]⟩
def h68 : FH := ⟨[], [0, 1, 4, 9, 13], [(0, ⟨[9], []⟩), (1, ⟨[4], []⟩), (2, ⟨[13], []⟩), (4, ⟨[], []⟩), (3, ⟨[4], []⟩)]⟩
def h69 : FH := ⟨[], [0, 2, 3, 4, 7], [(0, ⟨[2, 3], []⟩), (1, ⟨[7], []⟩), (2, ⟨[2, 3], []⟩), (3, ⟨[4], []⟩), (4, ⟨[4], []⟩), (5, ⟨[2, 3], []⟩)]⟩
def h70 : FH := ⟨[], [0, 1, 2, 6, 7, 8, 17, 18, 19], [(0, ⟨[6], []⟩), (1, ⟨[7], []⟩), (2, ⟨[], []⟩), (3, ⟨[17, 18], []⟩), (4, ⟨[19], []⟩), (5, ⟨[8], []⟩), (6, ⟨[], []⟩), (7, ⟨[18], []⟩), (8, ⟨[6], []⟩)]⟩
def h71 : FH := ⟨[], [0, 1, 4, 5, 6, 9], [(0, ⟨[4], []⟩), (1, ⟨[5], []⟩), (2, ⟨[6], []⟩), (3, ⟨[9], []⟩), (5, ⟨[5], []⟩), (6, ⟨[0], []⟩), (4, ⟨[6], []⟩), (7, ⟨[4], []⟩)]⟩
def h72 : FH := ⟨[], [0, 1, 4, 9, 11], [(0, ⟨[4], []⟩), (1, ⟨[9], []⟩), (2, ⟨[4], []⟩), (3, ⟨[11], []⟩), (4, ⟨[], []⟩), (5, ⟨[4], []⟩), (6, ⟨[], []⟩), (7, ⟨[4], []⟩)]⟩
def ti1 : TI := ⟨1, false, 8, [.nilfn], .fn⟩
def ti2 : TI := ⟨1, false, 8, [.int .i64 0], .int .i64⟩
def ti3 : TI := ⟨1, false, 8, [.int .i64 0], .int .i64⟩
def ti4 : TI := ⟨1, false, 1, [.bool false], .bool⟩
def ti5 : TI := ⟨1, false, 1, [.int .u8 0], .int .u8⟩
def ti6 : TI := ⟨1, false, 1, [.int .u8 0], .int .u8⟩
def ti7 : TI := ⟨4, true, 24, [.int .i64 0, .int .i64 0, .bool false, .int .u8 0], .agg [(0, 1, false), (1, 1, false), (2, 1, false), (3, 1, false)]⟩
def ti8 : TI := ⟨4, true, 24, [.int .i64 0, .int .i64 0, .bool false, .int .u8 0], .agg [(0, 1, false), (1, 1, false), (2, 1, false), (3, 1, false)]⟩
def ti9 : TI := ⟨1, false, 16, [.str []], .str⟩
def ti10 : TI := ⟨1, false, 16, [.str []], .str⟩
def ti11 : TI := ⟨1, false, 16, [.str []], .str⟩
def ti12 : TI := ⟨1, false, 8, [.int .u64 0], .int .u64⟩
def ti13 : TI := ⟨2, true, 24, [.str [], .int .u64 0], .agg [(0, 1, false), (1, 1, false)]⟩
def ti14 : TI := ⟨2, true, 24, [.str [], .int .u64 0], .agg [(0, 1, false), (1, 1, false)]⟩
def ti15 : TI := ⟨1, false, 8, [.nilp], .ptr⟩
def ti16 : TI := ⟨1, false, 8, [.nilp], .ptr⟩
def ti17 : TI := ⟨1, false, 8, [.nilp], .ptr⟩
def ti18 : TI := ⟨1, true, 8, [.nilp], .agg [(0, 1, false)]⟩
def ti19 : TI := ⟨1, true, 8, [.nilp], .agg [(0, 1, false)]⟩
def ti20 : TI := ⟨1, false, 16, [.nilif], .iface⟩
def ti21 : TI := ⟨1, false, 4, [.int .i32 0], .int .i32⟩
def ti22 : TI := ⟨1, false, 24, [.nils], .sl 3 1 8 [.int .i64 0]⟩
def ti23 : TI := ⟨1, false, 24, [.nils], .sl 3 1 8 [.int .i64 0]⟩
def ti24 : TI := ⟨2, true, 48, [.nils, .nils], .agg [(0, 1, false), (1, 1, false)]⟩
def ti25 : TI := ⟨2, true, 48, [.nils, .nils], .agg [(0, 1, false), (1, 1, false)]⟩
def ti26 : TI := ⟨5, true, 80, [.int .i64 0, .int .i64 0, .nils, .nils, .str []], .agg [(0, 1, false), (1, 1, false), (2, 2, true), (4, 1, false)]⟩
def ti27 : TI := ⟨5, true, 80, [.int .i64 0, .int .i64 0, .nils, .nils, .str []], .agg [(0, 1, false), (1, 1, false), (2, 2, true), (4, 1, false)]⟩
def ti28 : TI := ⟨1, false, 24, [.nils], .sl 34 6 88 [.int .i64 0, .int .i64 0, .int .i64 0, .nils, .nils, .str []]⟩
def ti29 : TI := ⟨8, true, 120, [.int .i64 0, .int .i64 0, .int .i64 0, .int .i64 0, .nils, .nils, .str [], .nils], .agg [(0, 1, false), (1, 1, false), (2, 5, true), (7, 1, false)]⟩
def ti30 : TI := ⟨8, true, 120, [.int .i64 0, .int .i64 0, .int .i64 0, .int .i64 0, .nils, .nils, .str [], .nils], .agg [(0, 1, false), (1, 1, false), (2, 5, true), (7, 1, false)]⟩
def ti31 : TI := ⟨1, false, 8, [.int .i64 0], .int .i64⟩
def ti32 : TI := ⟨1, false, 8, [.int .i64 0], .int .i64⟩
def ti33 : TI := ⟨6, true, 88, [.int .i64 0, .int .i64 0, .int .i64 0, .nils, .nils, .str []], .agg [(0, 1, false), (1, 1, false), (2, 1, false), (3, 2, true), (5, 1, false)]⟩
def ti34 : TI := ⟨6, true, 88, [.int .i64 0, .int .i64 0, .int .i64 0, .nils, .nils, .str []], .agg [(0, 1, false), (1, 1, false), (2, 1, false), (3, 2, true), (5, 1, false)]⟩
def ti35 : TI := ⟨15, true, 200, [.int .i64 0, .int .i64 0, .int .i64 0, .int .i64 0, .int .i64 0, .int .i64 0, .nils, .nils, .str [], .int .i64 0, .int .i64 0, .int .i64 0, .nils, .nils, .str []], .agg [(0, 1, false), (1, 1, false), (2, 1, false), (3, 6, true), (9, 1, false), (10, 5, true)]⟩
def ti36 : TI := ⟨15, true, 200, [.int .i64 0, .int .i64 0, .int .i64 0, .int .i64 0, .int .i64 0, .int .i64 0, .nils, .nils, .str [], .int .i64 0, .int .i64 0, .int .i64 0, .nils, .nils, .str []], .agg [(0, 1, false), (1, 1, false), (2, 1, false), (3, 6, true), (9, 1, false), (10, 5, true)]⟩
def ti37 : TI := ⟨1, false, 8, [.nilfn], .fn⟩
def ti38 : TI := ⟨1, false, 8, [.nilfn], .fn⟩
def ti39 : TI := ⟨1, false, 8, [.int .i64 0], .int .i64⟩
def ti41 : TI := ⟨1, false, 8, [.nilfn], .fn⟩
def ti42 : TI := ⟨1, false, 8, [.nilfn], .fn⟩
def ti43 : TI := ⟨1, false, 8, [.nilfn], .fn⟩
def ti44 : TI := ⟨1, false, 8, [.nilfn], .fn⟩
def ti45 : TI := ⟨1, false, 8, [.nilfn], .fn⟩
def ti46 : TI := ⟨1, false, 8, [.nilfn], .fn⟩
def ti47 : TI := ⟨1, false, 8, [.nilfn], .fn⟩
def ti48 : TI := ⟨1, false, 8, [.nilfn], .fn⟩
def ti49 : TI := ⟨1, false, 8, [.nilfn], .fn⟩
def ti50 : TI := ⟨1, false, 8, [.nilfn], .fn⟩
def ti51 : TI := ⟨1, false, 8, [.nilfn], .fn⟩
def ti52 : TI := ⟨1, false, 8, [.nilfn], .fn⟩
def ti53 : TI := ⟨1, false, 8, [.nilfn], .fn⟩
def ti54 : TI := ⟨1, false, 8, [.nilfn], .fn⟩
def ti55 : TI := ⟨1, false, 8, [.nilfn], .fn⟩
def ti56 : TI := ⟨1, false, 8, [.nilfn], .fn⟩
def ti57 : TI := ⟨1, false, 24, [.nils], .sl 36 15 200 [.int .i64 0, .int .i64 0, .int .i64 0, .int .i64 0, .int .i64 0, .int .i64 0, .nils, .nils, .str [], .int .i64 0, .int .i64 0, .int .i64 0, .nils, .nils, .str []]⟩
def ti58 : TI := ⟨1, false, 8, [.nilfn], .fn⟩
def ti59 : TI := ⟨1, false, 24, [.nils], .sl 5 1 1 [.int .u8 0]⟩
def ti61 : TI := ⟨1, false, 8, [.nilfn], .fn⟩
def ti62 : TI := ⟨1, false, 8, [.nilfn], .fn⟩
def ti63 : TI := ⟨1, false, 8, [.nilp], .ptr⟩
def ti64 : TI := ⟨1, false, 8, [.nilp], .ptr⟩
def ti65 : TI := ⟨23, true, 320, [.int .i64 0, .int .i64 0, .int .i64 0, .int .i64 0, .nils, .nils, .str [], .nils, .int .i64 0, .int .i64 0, .int .i64 0, .int .i64 0, .int .i64 0, .int .i64 0, .nils, .nils, .str [], .int .i64 0, .int .i64 0, .int .i64 0, .nils, .nils, .str []], .agg [(0, 8, true), (8, 15, true)]⟩
def ti66 : TI := ⟨23, true, 320, [.int .i64 0, .int .i64 0, .int .i64 0, .int .i64 0, .nils, .nils, .str [], .nils, .int .i64 0, .int .i64 0, .int .i64 0, .int .i64 0, .int .i64 0, .int .i64 0, .nils, .nils, .str [], .int .i64 0, .int .i64 0, .int .i64 0, .nils, .nils, .str []], .agg [(0, 8, true), (8, 15, true)]⟩
def ti67 : TI := ⟨1, false, 8, [.nilfn], .fn⟩
def ti68 : TI := ⟨1, false, 8, [.nilfn], .fn⟩
def ti69 : TI := ⟨1, false, 8, [.nilfn], .fn⟩
def ti70 : TI := ⟨1, false, 8, [.nilfn], .fn⟩
def ti71 : TI := ⟨1, false, 8, [.nilfn], .fn⟩
def ti72 : TI := ⟨1, false, 8, [.nilfn], .fn⟩
def ti73 : TI := ⟨1, false, 8, [.nilfn], .fn⟩
def ti74 : TI := ⟨1, false, 8, [.nilfn], .fn⟩
def ti75 : TI := ⟨1, false, 8, [.nilp], .ptr⟩
def ti76 : TI := ⟨1, true, 8, [.int .i64 0], .agg [(0, 1, false)]⟩
def ti77 : TI := ⟨1, true, 8, [.int .i64 0], .agg [(0, 1, false)]⟩
def ti78 : TI := ⟨1, false, 8, [.nilfn], .fn⟩
def ti79 : TI := ⟨1, false, 8, [.nilfn], .fn⟩
def ti80 : TI := ⟨1, false, 8, [.nilp], .ptr⟩
def ti81 : TI := ⟨2, true, 32, [.nils, .int .i64 0], .agg [(0, 1, false), (1, 1, false)]⟩
def ti82 : TI := ⟨2, true, 32, [.nils, .int .i64 0], .agg [(0, 1, false), (1, 1, false)]⟩
def ti83 : TI := ⟨1, false, 8, [.nilfn], .fn⟩
def ti84 : TI := ⟨1, false, 8, [.nilfn], .fn⟩
def ti85 : TI := ⟨1, true, 24, [.nils], .agg [(0, 1, false)]⟩
def ti86 : TI := ⟨1, true, 24, [.nils], .agg [(0, 1, false)]⟩
def ti87 : TI := ⟨1, false, 8, [.nilfn], .fn⟩
def ti88 : TI := ⟨1, false, 8, [.nilfn], .fn⟩
def ti89 : TI := ⟨1, false, 8, [.nilfn], .fn⟩
def ti90 : TI := ⟨1, false, 8, [.nilfn], .fn⟩
def ti91 : TI := ⟨1, true, 8, [.int .i64 0], .agg [(0, 1, false)]⟩
def ti92 : TI := ⟨1, true, 8, [.int .i64 0], .agg [(0, 1, false)]⟩
def ti93 : TI := ⟨1, false, 8, [.nilfn], .fn⟩
def ti94 : TI := ⟨1, false, 8, [.nilfn], .fn⟩
def ti95 : TI := ⟨1, false, 8, [.nilfn], .fn⟩
def ti96 : TI := ⟨1, false, 8, [.nilfn], .fn⟩
def ti98 : TI := ⟨1, false, 8, [.nilfn], .fn⟩
def ti99 : TI := ⟨1, false, 8, [.nilfn], .fn⟩
def ti100 : TI := ⟨1, false, 8, [.nilfn], .fn⟩
def ti101 : TI := ⟨1, false, 8, [.nilfn], .fn⟩
def ti102 : TI := ⟨1, false, 8, [.int .u64 0], .int .u64⟩
def ti103 : TI := ⟨1, false, 8, [.nilfn], .fn⟩
def ti104 : TI := ⟨1, false, 8, [.nilfn], .fn⟩
def ti105 : TI := ⟨1, false, 8, [.nilfn], .fn⟩
def ti106 : TI := ⟨4, true, 40, [.nilp, .nilp, .nilp, .str []], .agg [(0, 1, false), (1, 1, false), (2, 1, false), (3, 1, false)]⟩
def ti107 : TI := ⟨4, true, 40, [.nilp, .nilp, .nilp, .str []], .agg [(0, 1, false), (1, 1, false), (2, 1, false), (3, 1, false)]⟩
def ti108 : TI := ⟨0, true, 0, [], .arr 0 16 1 false⟩
def ti109 : TI := ⟨0, true, 0, [], .agg [(0, 0, true)]⟩
def ti110 : TI := ⟨0, true, 0, [], .agg [(0, 0, true)]⟩
def ti111 : TI := ⟨1, false, 4, [.int .u32 0], .int .u32⟩
def ti112 : TI := ⟨1, false, 1, [.int .u8 0], .int .u8⟩
def ti113 : TI := ⟨1, false, 1, [.int .u8 0], .int .u8⟩
def ti114 : TI := ⟨1, false, 8, [.nilfn], .fn⟩
def ti115 : TI := ⟨1, false, 8, [.nilp], .ptr⟩
def ti116 : TI := ⟨1, false, 4, [.int .i32 0], .int .i32⟩
def ti117 : TI := ⟨1, false, 4, [.int .i32 0], .int .i32⟩
def ti118 : TI := ⟨11, true, 48, [.int .u64 0, .int .u64 0, .int .u32 0, .int .u8 0, .int .u8 0, .int .u8 0, .int .u8 0, .nilfn, .nilp, .int .i32 0, .int .i32 0], .agg [(0, 1, false), (1, 1, false), (2, 1, false), (3, 1, false), (4, 1, false), (5, 1, false), (6, 1, false), (7, 1, false), (8, 1, false), (9, 1, false), (10, 1, false)]⟩
def ti119 : TI := ⟨11, true, 48, [.int .u64 0, .int .u64 0, .int .u32 0, .int .u8 0, .int .u8 0, .int .u8 0, .int .u8 0, .nilfn, .nilp, .int .i32 0, .int .i32 0], .agg [(0, 1, false), (1, 1, false), (2, 1, false), (3, 1, false), (4, 1, false), (5, 1, false), (6, 1, false), (7, 1, false), (8, 1, false), (9, 1, false), (10, 1, false)]⟩
def ti120 : TI := ⟨1, false, 8, [.nilfn], .fn⟩
def ti121 : TI := ⟨1, false, 8, [.nilp], .other⟩
def hTree : Tr FH := (.node (none) (.node (none) (.node (some h3) (.node (some h7) (.node (some h15) (.node (some h31) (.node (some h63) .leaf .leaf) .leaf) (.node (some h47) .leaf .leaf)) (.node (some h23) (.node (some h39) (.node (some h71) .leaf .leaf) .leaf) (.node (some h55) .leaf .leaf))) (.node (some h11) (.node (some h19) (.node (some h35) (.node (some h67) .leaf .leaf) .leaf) (.node (some h51) .leaf .leaf)) (.node (some h27) (.node (some h43) .leaf .leaf) (.node (some h59) .leaf .leaf)))) (.node (some h5) (.node (some h9) (.node (some h17) (.node (some h33) (.node (some h65) .leaf .leaf) .leaf) (.node (some h49) .leaf .leaf)) (.node (some h25) (.node (some h41) .leaf .leaf) (.node (some h57) .leaf .leaf))) (.node (some h13) (.node (some h21) (.node (some h37) (.node (some h69) .leaf .leaf) .leaf) (.node (some h53) .leaf .leaf)) (.node (some h29) (.node (some h45) .leaf .leaf) (.node (some h61) .leaf .leaf))))) (.node (some h2) (.node (some h4) (.node (some h8) (.node (some h16) (.node (some h32) (.node (some h64) .leaf .leaf) .leaf) (.node (some h48) .leaf .leaf)) (.node (some h24) (.node (some h40) (.node (some h72) .leaf .leaf) .leaf) (.node (some h56) .leaf .leaf))) (.node (some h12) (.node (some h20) (.node (some h36) (.node (some h68) .leaf .leaf) .leaf) (.node (some h52) .leaf .leaf)) (.node (some h28) (.node (some h44) .leaf .leaf) (.node (some h60) .leaf .leaf)))) (.node (some h6) (.node (some h10) (.node (some h18) (.node (some h34) (.node (some h66) .leaf .leaf) .leaf) (.node (some h50) .leaf .leaf)) (.node (some h26) (.node (some h42) .leaf .leaf) (.node (some h58) .leaf .leaf))) (.node (some h14) (.node (some h22) (.node (some h38) (.node (some h70) .leaf .leaf) .leaf) (.node (some h54) .leaf .leaf)) (.node (some h30) (.node (some h46) .leaf .leaf) (.node (some h62) .leaf .leaf))))))
def hints (f : Nat) : FH := (hTree.get f).getD ⟨[], [], []⟩
noncomputable def fTree : Tr Func := (.node (none) (.node (none) (.node (some Try.f3) (.node (some Try.f7) (.node (some Try.f15) (.node (some Try.f31) (.node (some Try.f63) .leaf .leaf) .leaf) (.node (some Try.f47) .leaf .leaf)) (.node (some Try.f23) (.node (some Try.f39) (.node (some Try.f71) .leaf .leaf) .leaf) (.node (some Try.f55) .leaf .leaf))) (.node (some Try.f11) (.node (some Try.f19) (.node (some Try.f35) (.node (some Try.f67) .leaf .leaf) .leaf) (.node (some Try.f51) .leaf .leaf)) (.node (some Try.f27) (.node (some Try.f43) .leaf .leaf) (.node (some Try.f59) .leaf .leaf)))) (.node (some Try.f5) (.node (some Try.f9) (.node (some Try.f17) (.node (some Try.f33) (.node (some Try.f65) .leaf .leaf) .leaf) (.node (some Try.f49) .leaf .leaf)) (.node (some Try.f25) (.node (some Try.f41) .leaf .leaf) (.node (some Try.f57) .leaf .leaf))) (.node (some Try.f13) (.node (some Try.f21) (.node (some Try.f37) (.node (some Try.f69) .leaf .leaf) .leaf) (.node (some Try.f53) .leaf .leaf)) (.node (some Try.f29) (.node (some Try.f45) .leaf .leaf) (.node (some Try.f61) .leaf .leaf))))) (.node (some Try.f2) (.node (some Try.f4) (.node (some Try.f8) (.node (some Try.f16) (.node (some Try.f32) (.node (some Try.f64) .leaf .leaf) .leaf) (.node (some Try.f48) .leaf .leaf)) (.node (some Try.f24) (.node (some Try.f40) (.node (some Try.f72) .leaf .leaf) .leaf) (.node (some Try.f56) .leaf .leaf))) (.node (some Try.f12) (.node (some Try.f20) (.node (some Try.f36) (.node (some Try.f68) .leaf .leaf) .leaf) (.node (some Try.f52) .leaf .leaf)) (.node (some Try.f28) (.node (some Try.f44) .leaf .leaf) (.node (some Try.f60) .leaf .leaf)))) (.node (some Try.f6) (.node (some Try.f10) (.node (some Try.f18) (.node (some Try.f34) (.node (some Try.f66) .leaf .leaf) .leaf) (.node (some Try.f50) .leaf .leaf)) (.node (some Try.f26) (.node (some Try.f42) .leaf .leaf) (.node (some Try.f58) .leaf .leaf))) (.node (some Try.f14) (.node (some Try.f22) (.node (some Try.f38) (.node (some Try.f70) .leaf .leaf) .leaf) (.node (some Try.f54) .leaf .leaf)) (.node (some Try.f30) (.node (some Try.f46) .leaf .leaf) (.node (some Try.f62) .leaf .leaf))))))
noncomputable def funs (f : Nat) : Option Func := fTree.get f
def tTree : Tr TI := (.node (none) (.node (some ti1) (.node (some ti3) (.node (some ti7) (.node (some ti15) (.node (some ti31) (.node (some ti63) .leaf .leaf) (.node (some ti95) .leaf .leaf)) (.node (some ti47) (.node (some ti79) .leaf .leaf) (.node (some ti111) .leaf .leaf))) (.node (some ti23) (.node (some ti39) (.node (some ti71) .leaf .leaf) (.node (some ti103) .leaf .leaf)) (.node (some ti55) (.node (some ti87) .leaf .leaf) (.node (some ti119) .leaf .leaf)))) (.node (some ti11) (.node (some ti19) (.node (some ti35) (.node (some ti67) .leaf .leaf) (.node (some ti99) .leaf .leaf)) (.node (some ti51) (.node (some ti83) .leaf .leaf) (.node (some ti115) .leaf .leaf))) (.node (some ti27) (.node (some ti43) (.node (some ti75) .leaf .leaf) (.node (some ti107) .leaf .leaf)) (.node (some ti59) (.node (some ti91) .leaf .leaf) .leaf)))) (.node (some ti5) (.node (some ti9) (.node (some ti17) (.node (some ti33) (.node (some ti65) .leaf .leaf) .leaf) (.node (some ti49) (.node (some ti81) .leaf .leaf) (.node (some ti113) .leaf .leaf))) (.node (some ti25) (.node (some ti41) (.node (some ti73) .leaf .leaf) (.node (some ti105) .leaf .leaf)) (.node (some ti57) (.node (some ti89) .leaf .leaf) (.node (some ti121) .leaf .leaf)))) (.node (some ti13) (.node (some ti21) (.node (some ti37) (.node (some ti69) .leaf .leaf) (.node (some ti101) .leaf .leaf)) (.node (some ti53) (.node (some ti85) .leaf .leaf) (.node (some ti117) .leaf .leaf))) (.node (some ti29) (.node (some ti45) (.node (some ti77) .leaf .leaf) (.node (some ti109) .leaf .leaf)) (.node (some ti61) (.node (some ti93) .leaf .leaf) .leaf))))) (.node (some ti2) (.node (some ti4) (.node (some ti8) (.node (some ti16) (.node (some ti32) (.node (some ti64) .leaf .leaf) (.node (some ti96) .leaf .leaf)) (.node (some ti48) (.node (some ti80) .leaf .leaf) (.node (some ti112) .leaf .leaf))) (.node (some ti24) (.node (none) (.node (some ti72) .leaf .leaf) (.node (some ti104) .leaf .leaf)) (.node (some ti56) (.node (some ti88) .leaf .leaf) (.node (some ti120) .leaf .leaf)))) (.node (some ti12) (.node (some ti20) (.node (some ti36) (.node (some ti68) .leaf .leaf) (.node (some ti100) .leaf .leaf)) (.node (some ti52) (.node (some ti84) .leaf .leaf) (.node (some ti116) .leaf .leaf))) (.node (some ti28) (.node (some ti44) (.node (some ti76) .leaf .leaf) (.node (some ti108) .leaf .leaf)) (.node (none) (.node (some ti92) .leaf .leaf) .leaf)))) (.node (some ti6) (.node (some ti10) (.node (some ti18) (.node (some ti34) (.node (some ti66) .leaf .leaf) (.node (some ti98) .leaf .leaf)) (.node (some ti50) (.node (some ti82) .leaf .leaf) (.node (some ti114) .leaf .leaf))) (.node (some ti26) (.node (some ti42) (.node (some ti74) .leaf .leaf) (.node (some ti106) .leaf .leaf)) (.node (some ti58) (.node (some ti90) .leaf .leaf) .leaf))) (.node (some ti14) (.node (some ti22) (.node (some ti38) (.node (some ti70) .leaf .leaf) (.node (some ti102) .leaf .leaf)) (.node (some ti54) (.node (some ti86) .leaf .leaf) (.node (some ti118) .leaf .leaf))) (.node (some ti30) (.node (some ti46) (.node (some ti78) .leaf .leaf) (.node (some ti110) .leaf .leaf)) (.node (some ti62) (.node (some ti94) .leaf .leaf) .leaf))))))
def tis (t : Nat) : Option TI := tTree.get t
theorem tok1 : mkTI Try.prog 1 = some ti1 := by kernel_rfl
theorem tok2 : mkTI Try.prog 2 = some ti2 := by kernel_rfl
theorem tok3 : mkTI Try.prog 3 = some ti3 := by kernel_rfl
theorem tok4 : mkTI Try.prog 4 = some ti4 := by kernel_rfl
theorem tok5 : mkTI Try.prog 5 = some ti5 := by kernel_rfl
theorem tok6 : mkTI Try.prog 6 = some ti6 := by kernel_rfl
theorem tok7 : mkTI Try.prog 7 = some ti7 := by kernel_rfl
theorem tok8 : mkTI Try.prog 8 = some ti8 := by kernel_rfl
theorem tok9 : mkTI Try.prog 9 = some ti9 := by kernel_rfl
theorem tok10 : mkTI Try.prog 10 = some ti10 := by kernel_rfl
theorem tok11 : mkTI Try.prog 11 = some ti11 := by kernel_rfl
theorem tok12 : mkTI Try.prog 12 = some ti12 := by kernel_rfl
theorem tok13 : mkTI Try.prog 13 = some ti13 := by kernel_rfl
theorem tok14 : mkTI Try.prog 14 = some ti14 := by kernel_rfl
theorem tok15 : mkTI Try.prog 15 = some ti15 := by kernel_rfl
theorem tok16 : mkTI Try.prog 16 = some ti16 := by kernel_rfl
theorem tok17 : mkTI Try.prog 17 = some ti17 := by kernel_rfl
theorem tok18 : mkTI Try.prog 18 = some ti18 := by kernel_rfl
theorem tok19 : mkTI Try.prog 19 = some ti19 := by kernel_rfl
theorem tok20 : mkTI Try.prog 20 = some ti20 := by kernel_rfl
theorem tok21 : mkTI Try.prog 21 = some ti21 := by kernel_rfl
theorem tok22 : mkTI Try.prog 22 = some ti22 := by kernel_rfl
theorem tok23 : mkTI Try.prog 23 = some ti23 := by kernel_rfl
theorem tok24 : mkTI Try.prog 24 = some ti24 := by kernel_rfl
theorem tok25 : mkTI Try.prog 25 = some ti25 := by kernel_rfl
theorem tok26 : mkTI Try.prog 26 = some ti26 := by kernel_rfl
theorem tok27 : mkTI Try.prog 27 = some ti27 := by kernel_rfl
theorem tok28 : mkTI Try.prog 28 = some ti28 := by kernel_rfl
theorem tok29 : mkTI Try.prog 29 = some ti29 := by kernel_rfl
theorem tok30 : mkTI Try.prog 30 = some ti30 := by kernel_rfl
theorem tok31 : mkTI Try.prog 31 = some ti31 := by kernel_rfl
theorem tok32 : mkTI Try.prog 32 = some ti32 := by kernel_rfl
theorem tok33 : mkTI Try.prog 33 = some ti33 := by kernel_rfl
theorem tok34 : mkTI Try.prog 34 = some ti34 := by kernel_rfl
theorem tok35 : mkTI Try.prog 35 = some ti35 := by kernel_rfl
theorem tok36 : mkTI Try.prog 36 = some ti36 := by kernel_rfl
theorem tok37 : mkTI Try.prog 37 = some ti37 := by kernel_rfl
theorem tok38 : mkTI Try.prog 38 = some ti38 := by kernel_rfl
theorem tok39 : mkTI Try.prog 39 = some ti39 := by kernel_rfl
theorem tok41 : mkTI Try.prog 41 = some ti41 := by kernel_rfl
theorem tok42 : mkTI Try.prog 42 = some ti42 := by kernel_rfl
theorem tok43 : mkTI Try.prog 43 = some ti43 := by kernel_rfl
theorem tok44 : mkTI Try.prog 44 = some ti44 := by kernel_rfl
theorem tok45 : mkTI Try.prog 45 = some ti45 := by kernel_rfl
theorem tok46 : mkTI Try.prog 46 = some ti46 := by kernel_rfl
theorem tok47 : mkTI Try.prog 47 = some ti47 := by kernel_rfl
theorem tok48 : mkTI Try.prog 48 = some ti48 := by kernel_rfl
theorem tok49 : mkTI Try.prog 49 = some ti49 := by kernel_rfl
theorem tok50 : mkTI Try.prog 50 = some ti50 := by kernel_rfl
theorem tok51 : mkTI Try.prog 51 = some ti51 := by kernel_rfl
theorem tok52 : mkTI Try.prog 52 = some ti52 := by kernel_rfl
theorem tok53 : mkTI Try.prog 53 = some ti53 := by kernel_rfl
theorem tok54 : mkTI Try.prog 54 = some ti54 := by kernel_rfl
theorem tok55 : mkTI Try.prog 55 = some ti55 := by kernel_rfl
theorem tok56 : mkTI Try.prog 56 = some ti56 := by kernel_rfl
theorem tok57 : mkTI Try.prog 57 = some ti57 := by kernel_rfl
theorem tok58 : mkTI Try.prog 58 = some ti58 := by kernel_rfl
theorem tok59 : mkTI Try.prog 59 = some ti59 := by kernel_rfl
theorem tok61 : mkTI Try.prog 61 = some ti61 := by kernel_rfl
theorem tok62 : mkTI Try.prog 62 = some ti62 := by kernel_rfl
theorem tok63 : mkTI Try.prog 63 = some ti63 := by kernel_rfl
theorem tok64 : mkTI Try.prog 64 = some ti64 := by kernel_rfl
theorem tok65 : mkTI Try.prog 65 = some ti65 := by kernel_rfl
theorem tok66 : mkTI Try.prog 66 = some ti66 := by kernel_rfl
theorem tok67 : mkTI Try.prog 67 = some ti67 := by kernel_rfl
theorem tok68 : mkTI Try.prog 68 = some ti68 := by kernel_rfl
theorem tok69 : mkTI Try.prog 69 = some ti69 := by kernel_rfl
theorem tok70 : mkTI Try.prog 70 = some ti70 := by kernel_rfl
theorem tok71 : mkTI Try.prog 71 = some ti71 := by kernel_rfl
theorem tok72 : mkTI Try.prog 72 = some ti72 := by kernel_rfl
theorem tok73 : mkTI Try.prog 73 = some ti73 := by kernel_rfl
theorem tok74 : mkTI Try.prog 74 = some ti74 := by kernel_rfl
theorem tok75 : mkTI Try.prog 75 = some ti75 := by kernel_rfl
theorem tok76 : mkTI Try.prog 76 = some ti76 := by kernel_rfl
theorem tok77 : mkTI Try.prog 77 = some ti77 := by kernel_rfl
theorem tok78 : mkTI Try.prog 78 = some ti78 := by kernel_rfl
theorem tok79 : mkTI Try.prog 79 = some ti79 := by kernel_rfl
theorem tok80 : mkTI Try.prog 80 = some ti80 := by kernel_rfl
theorem tok81 : mkTI Try.prog 81 = some ti81 := by kernel_rfl
theorem tok82 : mkTI Try.prog 82 = some ti82 := by kernel_rfl
theorem tok83 : mkTI Try.prog 83 = some ti83 := by kernel_rfl
theorem tok84 : mkTI Try.prog 84 = some ti84 := by kernel_rfl
theorem tok85 : mkTI Try.prog 85 = some ti85 := by kernel_rfl
theorem tok86 : mkTI Try.prog 86 = some ti86 := by kernel_rfl
theorem tok87 : mkTI Try.prog 87 = some ti87 := by kernel_rfl
theorem tok88 : mkTI Try.prog 88 = some ti88 := by kernel_rfl
theorem tok89 : mkTI Try.prog 89 = some ti89 := by kernel_rfl
theorem tok90 : mkTI Try.prog 90 = some ti90 := by kernel_rfl
theorem tok91 : mkTI Try.prog 91 = some ti91 := by kernel_rfl
theorem tok92 : mkTI Try.prog 92 = some ti92 := by kernel_rfl
theorem tok93 : mkTI Try.prog 93 = some ti93 := by kernel_rfl
theorem tok94 : mkTI Try.prog 94 = some ti94 := by kernel_rfl
theorem tok95 : mkTI Try.prog 95 = some ti95 := by kernel_rfl
theorem tok96 : mkTI Try.prog 96 = some ti96 := by kernel_rfl
theorem tok98 : mkTI Try.prog 98 = some ti98 := by kernel_rfl
theorem tok99 : mkTI Try.prog 99 = some ti99 := by kernel_rfl
theorem tok100 : mkTI Try.prog 100 = some ti100 := by kernel_rfl
theorem tok101 : mkTI Try.prog 101 = some ti101 := by kernel_rfl
theorem tok102 : mkTI Try.prog 102 = some ti102 := by kernel_rfl
theorem tok103 : mkTI Try.prog 103 = some ti103 := by kernel_rfl
theorem tok104 : mkTI Try.prog 104 = some ti104 := by kernel_rfl
theorem tok105 : mkTI Try.prog 105 = some ti105 := by kernel_rfl
theorem tok106 : mkTI Try.prog 106 = some ti106 := by kernel_rfl
theorem tok107 : mkTI Try.prog 107 = some ti107 := by kernel_rfl
theorem tok108 : mkTI Try.prog 108 = some ti108 := by kernel_rfl
theorem tok109 : mkTI Try.prog 109 = some ti109 := by kernel_rfl
theorem tok110 : mkTI Try.prog 110 = some ti110 := by kernel_rfl
theorem tok111 : mkTI Try.prog 111 = some ti111 := by kernel_rfl
theorem tok112 : mkTI Try.prog 112 = some ti112 := by kernel_rfl
theorem tok113 : mkTI Try.prog 113 = some ti113 := by kernel_rfl
theorem tok114 : mkTI Try.prog 114 = some ti114 := by kernel_rfl
theorem tok115 : mkTI Try.prog 115 = some ti115 := by kernel_rfl
theorem tok116 : mkTI Try.prog 116 = some ti116 := by kernel_rfl
theorem tok117 : mkTI Try.prog 117 = some ti117 := by kernel_rfl
theorem tok118 : mkTI Try.prog 118 = some ti118 := by kernel_rfl
theorem tok119 : mkTI Try.prog 119 = some ti119 := by kernel_rfl
theorem tok120 : mkTI Try.prog 120 = some ti120 := by kernel_rfl
theorem tok121 : mkTI Try.prog 121 = some ti121 := by kernel_rfl
theorem fok2 : Try.prog.funcs[2]? = some Try.f2 := by kernel_rfl
theorem fok3 : Try.prog.funcs[3]? = some Try.f3 := by kernel_rfl
theorem fok4 : Try.prog.funcs[4]? = some Try.f4 := by kernel_rfl
theorem fok5 : Try.prog.funcs[5]? = some Try.f5 := by kernel_rfl
theorem fok6 : Try.prog.funcs[6]? = some Try.f6 := by kernel_rfl
theorem fok7 : Try.prog.funcs[7]? = some Try.f7 := by kernel_rfl
theorem fok8 : Try.prog.funcs[8]? = some Try.f8 := by kernel_rfl
theorem fok9 : Try.prog.funcs[9]? = some Try.f9 := by kernel_rfl
theorem fok10 : Try.prog.funcs[10]? = some Try.f10 := by kernel_rfl
theorem fok11 : Try.prog.funcs[11]? = some Try.f11 := by kernel_rfl
theorem fok12 : Try.prog.funcs[12]? = some Try.f12 := by kernel_rfl
theorem fok13 : Try.prog.funcs[13]? = some Try.f13 := by kernel_rfl
theorem fok14 : Try.prog.funcs[14]? = some Try.f14 := by kernel_rfl
theorem fok15 : Try.prog.funcs[15]? = some Try.f15 := by kernel_rfl
theorem fok16 : Try.prog.funcs[16]? = some Try.f16 := by kernel_rfl
theorem fok17 : Try.prog.funcs[17]? = some Try.f17 := by kernel_rfl
theorem fok18 : Try.prog.funcs[18]? = some Try.f18 := by kernel_rfl
theorem fok19 : Try.prog.funcs[19]? = some Try.f19 := by kernel_rfl
theorem fok20 : Try.prog.funcs[20]? = some Try.f20 := by kernel_rfl
theorem fok21 : Try.prog.funcs[21]? = some Try.f21 := by kernel_rfl
theorem fok22 : Try.prog.funcs[22]? = some Try.f22 := by kernel_rfl
theorem fok23 : Try.prog.funcs[23]? = some Try.f23 := by kernel_rfl
theorem fok24 : Try.prog.funcs[24]? = some Try.f24 := by kernel_rfl
theorem fok25 : Try.prog.funcs[25]? = some Try.f25 := by kernel_rfl
theorem fok26 : Try.prog.funcs[26]? = some Try.f26 := by kernel_rfl
theorem fok27 : Try.prog.funcs[27]? = some Try.f27 := by kernel_rfl
theorem fok28 : Try.prog.funcs[28]? = some Try.f28 := by kernel_rfl
theorem fok29 : Try.prog.funcs[29]? = some Try.f29 := by kernel_rfl
theorem fok30 : Try.prog.funcs[30]? = some Try.f30 := by kernel_rfl
theorem fok31 : Try.prog.funcs[31]? = some Try.f31 := by kernel_rfl
theorem fok32 : Try.prog.funcs[32]? = some Try.f32 := by kernel_rfl
theorem fok33 : Try.prog.funcs[33]? = some Try.f33 := by kernel_rfl
theorem fok34 : Try.prog.funcs[34]? = some Try.f34 := by kernel_rfl
theorem fok35 : Try.prog.funcs[35]? = some Try.f35 := by kernel_rfl
theorem fok36 : Try.prog.funcs[36]? = some Try.f36 := by kernel_rfl
theorem fok37 : Try.prog.funcs[37]? = some Try.f37 := by kernel_rfl
theorem fok38 : Try.prog.funcs[38]? = some Try.f38 := by kernel_rfl
theorem fok39 : Try.prog.funcs[39]? = some Try.f39 := by kernel_rfl
theorem fok40 : Try.prog.funcs[40]? = some Try.f40 := by kernel_rfl
theorem fok41 : Try.prog.funcs[41]? = some Try.f41 := by kernel_rfl
theorem fok42 : Try.prog.funcs[42]? = some Try.f42 := by kernel_rfl
theorem fok43 : Try.prog.funcs[43]? = some Try.f43 := by kernel_rfl
theorem fok44 : Try.prog.funcs[44]? = some Try.f44 := by kernel_rfl
theorem fok45 : Try.prog.funcs[45]? = some Try.f45 := by kernel_rfl
theorem fok46 : Try.prog.funcs[46]? = some Try.f46 := by kernel_rfl
theorem fok47 : Try.prog.funcs[47]? = some Try.f47 := by kernel_rfl
theorem fok48 : Try.prog.funcs[48]? = some Try.f48 := by kernel_rfl
theorem fok49 : Try.prog.funcs[49]? = some Try.f49 := by kernel_rfl
theorem fok50 : Try.prog.funcs[50]? = some Try.f50 := by kernel_rfl
theorem fok51 : Try.prog.funcs[51]? = some Try.f51 := by kernel_rfl
theorem fok52 : Try.prog.funcs[52]? = some Try.f52 := by kernel_rfl
theorem fok53 : Try.prog.funcs[53]? = some Try.f53 := by kernel_rfl
theorem fok54 : Try.prog.funcs[54]? = some Try.f54 := by kernel_rfl
theorem fok55 : Try.prog.funcs[55]? = some Try.f55 := by kernel_rfl
theorem fok56 : Try.prog.funcs[56]? = some Try.f56 := by kernel_rfl
theorem fok57 : Try.prog.funcs[57]? = some Try.f57 := by kernel_rfl
theorem fok58 : Try.prog.funcs[58]? = some Try.f58 := by kernel_rfl
theorem fok59 : Try.prog.funcs[59]? = some Try.f59 := by kernel_rfl
theorem fok60 : Try.prog.funcs[60]? = some Try.f60 := by kernel_rfl
theorem fok61 : Try.prog.funcs[61]? = some Try.f61 := by kernel_rfl
theorem fok62 : Try.prog.funcs[62]? = some Try.f62 := by kernel_rfl
theorem fok63 : Try.prog.funcs[63]? = some Try.f63 := by kernel_rfl
theorem fok64 : Try.prog.funcs[64]? = some Try.f64 := by kernel_rfl
theorem fok65 : Try.prog.funcs[65]? = some Try.f65 := by kernel_rfl
theorem fok66 : Try.prog.funcs[66]? = some Try.f66 := by kernel_rfl
theorem fok67 : Try.prog.funcs[67]? = some Try.f67 := by kernel_rfl
theorem fok68 : Try.prog.funcs[68]? = some Try.f68 := by kernel_rfl
theorem fok69 : Try.prog.funcs[69]? = some Try.f69 := by kernel_rfl
theorem fok70 : Try.prog.funcs[70]? = some Try.f70 := by kernel_rfl
theorem fok71 : Try.prog.funcs[71]? = some Try.f71 := by kernel_rfl
theorem fok72 : Try.prog.funcs[72]? = some Try.f72 := by kernel_rfl
theorem AllM.app {α : Type} {p : α → Prop} : ∀ {l m : List α}, AllM p l → AllM p m → AllM p (l ++ m)
  | [], _, _, k => k
  | _ :: _, _, h, k => ⟨h.1, AllM.app h.2 k⟩
def tL0 : List (Nat × TI) := [(1, ti1), (3, ti3), (7, ti7), (15, ti15), (31, ti31), (63, ti63), (95, ti95), (47, ti47), (79, ti79), (111, ti111), (23, ti23), (39, ti39), (71, ti71), (103, ti103), (55, ti55), (87, ti87), (119, ti119), (11, ti11), (19, ti19), (35, ti35)]
theorem tA0 : AllM (fun e => mkTI Try.prog e.1 = some e.2) tL0 := ⟨tok1, tok3, tok7, tok15, tok31, tok63, tok95, tok47, tok79, tok111, tok23, tok39, tok71, tok103, tok55, tok87, tok119, tok11, tok19, tok35, trivial⟩
def tL1 : List (Nat × TI) := [(67, ti67), (99, ti99), (51, ti51), (83, ti83), (115, ti115), (27, ti27), (43, ti43), (75, ti75), (107, ti107), (59, ti59), (91, ti91), (5, ti5), (9, ti9), (17, ti17), (33, ti33), (65, ti65), (49, ti49), (81, ti81), (113, ti113), (25, ti25)]
theorem tA1 : AllM (fun e => mkTI Try.prog e.1 = some e.2) tL1 := ⟨tok67, tok99, tok51, tok83, tok115, tok27, tok43, tok75, tok107, tok59, tok91, tok5, tok9, tok17, tok33, tok65, tok49, tok81, tok113, tok25, trivial⟩
def tL2 : List (Nat × TI) := [(41, ti41), (73, ti73), (105, ti105), (57, ti57), (89, ti89), (121, ti121), (13, ti13), (21, ti21), (37, ti37), (69, ti69), (101, ti101), (53, ti53), (85, ti85), (117, ti117), (29, ti29), (45, ti45), (77, ti77), (109, ti109), (61, ti61), (93, ti93)]
theorem tA2 : AllM (fun e => mkTI Try.prog e.1 = some e.2) tL2 := ⟨tok41, tok73, tok105, tok57, tok89, tok121, tok13, tok21, tok37, tok69, tok101, tok53, tok85, tok117, tok29, tok45, tok77, tok109, tok61, tok93, trivial⟩
def tL3 : List (Nat × TI) := [(2, ti2), (4, ti4), (8, ti8), (16, ti16), (32, ti32), (64, ti64), (96, ti96), (48, ti48), (80, ti80), (112, ti112), (24, ti24), (72, ti72), (104, ti104), (56, ti56), (88, ti88), (120, ti120), (12, ti12), (20, ti20), (36, ti36), (68, ti68)]
theorem tA3 : AllM (fun e => mkTI Try.prog e.1 = some e.2) tL3 := ⟨tok2, tok4, tok8, tok16, tok32, tok64, tok96, tok48, tok80, tok112, tok24, tok72, tok104, tok56, tok88, tok120, tok12, tok20, tok36, tok68, trivial⟩
def tL4 : List (Nat × TI) := [(100, ti100), (52, ti52), (84, ti84), (116, ti116), (28, ti28), (44, ti44), (76, ti76), (108, ti108), (92, ti92), (6, ti6), (10, ti10), (18, ti18), (34, ti34), (66, ti66), (98, ti98), (50, ti50), (82, ti82), (114, ti114), (26, ti26), (42, ti42)]
theorem tA4 : AllM (fun e => mkTI Try.prog e.1 = some e.2) tL4 := ⟨tok100, tok52, tok84, tok116, tok28, tok44, tok76, tok108, tok92, tok6, tok10, tok18, tok34, tok66, tok98, tok50, tok82, tok114, tok26, tok42, trivial⟩
def tL5 : List (Nat × TI) := [(74, ti74), (106, ti106), (58, ti58), (90, ti90), (14, ti14), (22, ti22), (38, ti38), (70, ti70), (102, ti102), (54, ti54), (86, ti86), (118, ti118), (30, ti30), (46, ti46), (78, ti78), (110, ti110), (62, ti62), (94, ti94)]
theorem tA5 : AllM (fun e => mkTI Try.prog e.1 = some e.2) tL5 := ⟨tok74, tok106, tok58, tok90, tok14, tok22, tok38, tok70, tok102, tok54, tok86, tok118, tok30, tok46, tok78, tok110, tok62, tok94, trivial⟩
noncomputable def fL0 : List (Nat × Func) := [(3, Try.f3), (7, Try.f7), (15, Try.f15), (31, Try.f31), (63, Try.f63), (47, Try.f47), (23, Try.f23), (39, Try.f39), (71, Try.f71), (55, Try.f55), (11, Try.f11), (19, Try.f19), (35, Try.f35), (67, Try.f67), (51, Try.f51), (27, Try.f27), (43, Try.f43), (59, Try.f59), (5, Try.f5), (9, Try.f9)]
theorem fA0 : AllM (fun e => Try.prog.funcs[e.1]? = some e.2) fL0 := ⟨fok3, fok7, fok15, fok31, fok63, fok47, fok23, fok39, fok71, fok55, fok11, fok19, fok35, fok67, fok51, fok27, fok43, fok59, fok5, fok9, trivial⟩
noncomputable def fL1 : List (Nat × Func) := [(17, Try.f17), (33, Try.f33), (65, Try.f65), (49, Try.f49), (25, Try.f25), (41, Try.f41), (57, Try.f57), (13, Try.f13), (21, Try.f21), (37, Try.f37), (69, Try.f69), (53, Try.f53), (29, Try.f29), (45, Try.f45), (61, Try.f61), (2, Try.f2), (4, Try.f4), (8, Try.f8), (16, Try.f16), (32, Try.f32)]
theorem fA1 : AllM (fun e => Try.prog.funcs[e.1]? = some e.2) fL1 := ⟨fok17, fok33, fok65, fok49, fok25, fok41, fok57, fok13, fok21, fok37, fok69, fok53, fok29, fok45, fok61, fok2, fok4, fok8, fok16, fok32, trivial⟩
noncomputable def fL2 : List (Nat × Func) := [(64, Try.f64), (48, Try.f48), (24, Try.f24), (40, Try.f40), (72, Try.f72), (56, Try.f56), (12, Try.f12), (20, Try.f20), (36, Try.f36), (68, Try.f68), (52, Try.f52), (28, Try.f28), (44, Try.f44), (60, Try.f60), (6, Try.f6), (10, Try.f10), (18, Try.f18), (34, Try.f34), (66, Try.f66), (50, Try.f50)]
theorem fA2 : AllM (fun e => Try.prog.funcs[e.1]? = some e.2) fL2 := ⟨fok64, fok48, fok24, fok40, fok72, fok56, fok12, fok20, fok36, fok68, fok52, fok28, fok44, fok60, fok6, fok10, fok18, fok34, fok66, fok50, trivial⟩
noncomputable def fL3 : List (Nat × Func) := [(26, Try.f26), (42, Try.f42), (58, Try.f58), (14, Try.f14), (22, Try.f22), (38, Try.f38), (70, Try.f70), (54, Try.f54), (30, Try.f30), (46, Try.f46), (62, Try.f62)]
theorem fA3 : AllM (fun e => Try.prog.funcs[e.1]? = some e.2) fL3 := ⟨fok26, fok42, fok58, fok14, fok22, fok38, fok70, fok54, fok30, fok46, fok62, trivial⟩
theorem tTree_toL : tTree.toL = tL0 ++ (tL1 ++ (tL2 ++ (tL3 ++ (tL4 ++ (tL5))))) := by kernel_rfl
theorem fTree_toL : fTree.toL = fL0 ++ (fL1 ++ (fL2 ++ (fL3))) := by kernel_rfl
theorem types_ok : ∀ t ti, tis t = some ti → mkTI Try.prog t = some ti := tr_all (p := fun t ti => mkTI Try.prog t = some ti) tTree_toL (AllM.app tA0 (AllM.app tA1 (AllM.app tA2 (AllM.app tA3 (AllM.app tA4 tA5)))))
theorem mixed : Try.prog.follows .mixedOrders = true := by kernel_rfl
theorem fH0 : (fL0.all fun e => fnOk (drawOk (hints e.1).bx) (hints e.1) e.2) = true := by kernel_rfl
theorem fH1 : (fL1.all fun e => fnOk (drawOk (hints e.1).bx) (hints e.1) e.2) = true := by kernel_rfl
theorem fH2 : (fL2.all fun e => fnOk (drawOk (hints e.1).bx) (hints e.1) e.2) = true := by kernel_rfl
theorem fH3 : (fL3.all fun e => fnOk (drawOk (hints e.1).bx) (hints e.1) e.2) = true := by kernel_rfl
theorem fH : ((fL0 ++ (fL1 ++ (fL2 ++ (fL3)))).all fun e => fnOk (drawOk (hints e.1).bx) (hints e.1) e.2) = true := by
  simp only [List.all_append, Bool.and_eq_true]
  exact ⟨fH0, fH1, fH2, fH3⟩
theorem funs_ok : FOk Try.prog drawOk funs hints := fok_of fTree_toL (AllM.app fA0 (AllM.app fA1 (AllM.app fA2 fA3))) fH
theorem sound {W0 : World} {B : Nat} (k : Nat) : CallOk Try.prog W0 B (evalF tis funs hints k) := eval_sound types_ok mixed funs_ok k
end Go.Eng.Try

/- STABLE 1: the contract of codec.laid. -/
set_option linter.unusedVariables false
set_option maxHeartbeats 2000000
namespace Go.Eng.Try
open Go Go.Proofs Go.Eng

/-- codec.laid: the bytes, and so many more. -/
theorem laid_ok (b : AV) (es : List (List AV)) (n v : Int) (hp : Hp) (hb : Sl hp 1 b es) (hl : es.length ≤ 4294967296) (h0 : 0 ≤ n) (h8 : n ≤ 8) : Ans tis funs hints 70 [b, .int .u64 v, .int .i64 n] hp (fun r hp' => ∃ x es', r = .ret x ∧ SlF hp.n hp' 1 x es' ∧ es'.length = es.length + n.toNat ∧ Grow hp hp') := by
  refine ans_of rfl rfl rfl rfl ?_
  apply x_nf
  repeat (first | exact NF.nil rfl | apply NF.v rfl | apply NF.lr rfl | apply NF.no rfl)
  refine x_seq (x_region rfl rfl (xr_run 1 rfl rfl (xr_end ?_)))
  apply x_nf
  repeat (first | exact NF.nil rfl | apply NF.v rfl | apply NF.lr rfl | apply NF.no rfl)
  refine x_seq (x_region rfl rfl ?_)
  refine xr_run 1 rfl rfl (xr_pure (asked0 rfl) (pLen rfl rfl rfl (Sl.len hb rfl rfl)) rfl rfl rfl (xr_run 2 rfl rfl ?_))
  rw [fwrap_i64 (by omega) (by omega)]
  refine xr_makeSlice (asked0 rfl) rfl rfl rfl rfl rfl rfl (by exact ⟨by omega, rfl, by omega, by decide, rfl⟩) rk_nil ?_
  have e1 : (((es.length : Nat) : Int) + n).toNat = es.length + n.toNat := by omega
  rw [e1]
  have hb2 := hb.grow (Grow.push hp ⟨5, zerosL [.int .u8 0] (es.length + n.toNat)⟩)
  refine xr_run 1 rfl rfl (xr_end ?_)
  apply x_nf
  repeat (first | exact NF.nil rfl | apply NF.v rfl | apply NF.lr rfl | apply NF.no rfl)
  refine x_seq (x_region rfl rfl (xr_run 2 rfl rfl ?_))
  obtain ⟨c1, hc1, hc1l⟩ := wr_ok' (cs := zerosL [.int .u8 0] (es.length + n.toNat)) (off := 0) (vs := es.flatten.take (min es.length (es.length + n.toNat) * 1)) (by rw [zerosL_len, List.length_take, hb.flen]; simp)
  refine xr_copy (asked0 rfl) rfl rfl rfl rfl rfl rfl hb2.flat (k := ⟨5, zerosL [.int .u8 0] (es.length + n.toNat)⟩) (by rw [Hp.get_push, if_pos rfl]) hc1 rfl rk_nil (xr_end ?_)
  apply x_nf
  repeat (first | exact NF.nil rfl | apply NF.v rfl | apply NF.lr rfl | apply NF.no rfl)
  refine x_seq (x_seq (x_region rfl rfl (xr_run 2 rfl rfl (xr_end ?_))))
  apply x_nf
  repeat (first | exact NF.nil rfl | apply NF.v rfl | apply NF.lr rfl | apply NF.no rfl)
  refine x_block ?_
  refine x_loopE (α := Int) (fun i => [(0, .v b), (1, .v (.int .u64 v)), (2, .v (.int .i64 n)), (7, .v (.sl hp.n 0 (es.length + n.toNat) 1 (some (es.length + n.toNat)))), (17, .v (.int .i64 n)), (18, .v (.int .i64 i))]) (fun _ => [])
    (fun i h df => 0 ≤ i ∧ i ≤ n ∧ df = [] ∧ Grow hp h ∧ hp.n < h.n ∧ ∃ c, h.get hp.n = some ⟨5, c⟩ ∧ c.length = es.length + n.toNat) (fun i => (n - i).toNat) 0 (by repeat (first | exact Sub.nil | apply Sub.cons rfl)) SubC.nil
    ⟨by omega, h0, rfl, (Grow.push hp _).put (Nat.le_refl _) _, by simp [put_n, push_n], c1, by rw [Hp.get_put, if_pos rfl], by rw [hc1l, zerosL_len]; simp⟩ ?_
  rintro i h df ⟨hi0, hin, rfl, hg, hpn, c, hc, hcl⟩
  have hb3 := hb.grow hg
  refine x_seq (x_region rfl rfl (xr_run 1 rfl rfl (xr_end ?_)))
  apply x_nf
  repeat (first | exact NF.nil rfl | apply NF.v rfl | apply NF.lr rfl | apply NF.no rfl)
  refine x_seq (x_cond rfl (fun hlt => ?_) (fun hlt => ?_))
  · have hlt := of_decide_eq_true hlt
    refine x_skip (x_seq (x_block (x_seq (x_region rfl rfl (xr_run 2 rfl rfl (xr_end ?_))))))
    apply x_nf
    repeat (first | exact NF.nil rfl | apply NF.v rfl | apply NF.lr rfl | apply NF.no rfl)
    refine x_region rfl rfl (xr_run 2 rfl rfl (xr_pure (asked0 rfl) (pLen rfl rfl rfl (Sl.len hb rfl rfl)) rfl rfl rfl (xr_run 5 rfl rfl ?_)))
    rw [fwrap_i64 (by omega) (by omega), fwrap_i64 (by omega) (by omega)]
    refine xr_pure (asked0 rfl) (pShr rfl rfl (by omega)) rfl rfl rfl (xr_run 1 rfl rfl ?_)
    refine xr_pure (asked0 rfl) (pIndexAddr rfl rfl (idx_own rfl rfl ⟨by omega, by omega⟩)) rfl rfl rfl ?_
    obtain ⟨c2, hc2, hc2l⟩ := wr_ok' (cs := c) (off := 0 + (((es.length : Nat) : Int) + i).toNat * 1) (vs := [.int .u8 (fwrap .u8 (v.fdiv (2 ^ (min (8 * i).toNat IntKind.u64.bits))))]) (by rw [hcl]; simp; omega)
    refine xr_storeH (asked0 rfl) rfl rfl rfl rfl rfl rfl hc hc2 rk_nil (xr_end ?_)
    apply x_nf
    repeat (first | exact NF.nil rfl | apply NF.v rfl | apply NF.lr rfl | apply NF.no rfl)
    refine x_region rfl rfl (xr_run 1 rfl rfl ?_)
    rw [fwrap_i64 (by omega) (by omega)]
    refine xr_run 1 rfl rfl (xr_end ?_)
    refine ⟨i + 1, by show (n - (i + 1)).toNat < (n - i).toNat; omega, ?_, SubC.nil, by omega, by omega, rfl, hg.put (Nat.le_refl _) _, hpn, c2, by rw [Hp.get_put, if_pos rfl], by rw [hc2l, hcl]⟩
    repeat (first | exact Sub.nil | apply Sub.cons rfl)
  · have hlt := of_decide_eq_false hlt
    refine x_exit (x_seq (x_region rfl rfl (xr_run 2 rfl rfl (xr_end ?_))))
    apply x_nf
    repeat (first | exact NF.nil rfl | apply NF.v rfl | apply NF.lr rfl | apply NF.no rfl)
    refine x_ret (ends_ret rfl rfl ?_)
    obtain ⟨es', he', hs'⟩ := slf1 (cap := some (es.length + n.toNat)) (off := 0) (len := es.length + n.toNat) (Nat.le_refl _) hpn hc (by simp only [hcl]; omega)
    exact ⟨_, es', rfl, hs', he', hg⟩
end Go.Eng.Try

/- STABLE 2: the contracts of codec.PutNumber and codec.PutText. -/
set_option linter.unusedVariables false
set_option maxHeartbeats 2000000
namespace Go.Eng.Try
open Go Go.Proofs Go.Eng

/-- An answer of the codec: bytes, and how it went. -/
def Put (hp : Hp) (n : Nat) (e : Int) (r : Res) (hp' : Hp) : Prop := ∃ x es, r = .ret (.tup [x, .int .i64 e]) ∧ SlF hp.n hp' 1 x es ∧ es.length ≤ n ∧ Grow hp hp'

/-- codec.PutNumber. -/
theorem putNumber_ok (b : AV) (es : List (List AV)) (n : Int) (hp : Hp) (hb : Sl hp 1 b es) (hl : es.length ≤ 4294967296) : Ans tis funs hints 64 [b, .int .i64 n] hp (Put hp (es.length + 4) (if 0 ≤ n ∧ n ≤ 1000000000 then 0 else 1)) := by
  refine ans_of rfl rfl rfl rfl ?_
  apply x_nf
  repeat (first | exact NF.nil rfl | apply NF.v rfl | apply NF.lr rfl | apply NF.no rfl)
  refine x_seq (x_region rfl rfl (xr_run 2 rfl rfl (xr_end ?_)))
  apply x_nf
  repeat (first | exact NF.nil rfl | apply NF.v rfl | apply NF.lr rfl | apply NF.no rfl)
  by_cases hn : 0 ≤ n ∧ n ≤ 1000000000
  · rw [if_pos hn]
    refine x_seq (x_seq (x_region rfl rfl (xr_run 3 rfl rfl ?_)))
    rw [decide_eq_false (show ¬ n < 0 by omega)]
    refine xr_run 2 rfl rfl ?_
    rw [decide_eq_false (show ¬ n > 1000000000 by omega)]
    refine xr_run 1 rfl rfl (xr_end ?_)
    apply x_nf
    repeat (first | exact NF.nil rfl | apply NF.v rfl | apply NF.lr rfl | apply NF.no rfl)
    refine x_cond rfl (fun hc => by cases hc) (fun hc => ?_)
    refine x_skip (x_seq (x_region rfl rfl (xr_run 3 rfl rfl ?_)))
    obtain ⟨r, hp', hc, x, es', rfl, h1, h2, h3⟩ := laid_ok b es 4 (fwrap .u64 n) hp hb hl (by decide) (by decide)
    refine xr_call (asked0 rfl) rfl rfl rfl rfl hc rk_nil (xr_run 2 rfl rfl (xr_end ?_))
    apply x_nf
    repeat (first | exact NF.nil rfl | apply NF.v rfl | apply NF.lr rfl | apply NF.no rfl)
    refine x_ret (ends_ret rfl rfl ⟨x, es', rfl, h1, by rw [h2]; exact Nat.le_refl _, h3⟩)
  · rw [if_neg hn]
    have fin : ∀ sl, Sub [(11, .v (.bool true))] sl → True := fun _ _ => trivial
    refine x_seq (x_cut [(11, .v (.bool true))] [] hp [] ?_ ?_)
    · by_cases h0 : n < 0
      · refine x_region rfl rfl (xr_run 3 rfl rfl ?_)
        rw [decide_eq_true h0]
        refine xr_run 3 rfl rfl (xr_end ⟨?_, SubC.nil, rfl, rfl⟩)
        repeat (first | exact Sub.nil | apply Sub.cons rfl)
      · refine x_region rfl rfl (xr_run 3 rfl rfl ?_)
        rw [decide_eq_false h0]
        refine xr_run 2 rfl rfl ?_
        rw [decide_eq_true (show n > 1000000000 by omega)]
        refine xr_run 1 rfl rfl (xr_end ⟨?_, SubC.nil, rfl, rfl⟩)
        repeat (first | exact Sub.nil | apply Sub.cons rfl)
    · refine x_cond rfl (fun hc => ?_) (fun hc => by cases hc)
      refine x_seq (x_region rfl rfl (xr_run 2 rfl rfl (xr_end ?_)))
      apply x_nf
      repeat (first | exact NF.nil rfl | apply NF.v rfl | apply NF.lr rfl | apply NF.no rfl)
      exact x_ret (ends_ret rfl rfl ⟨.nils, [], rfl, .nil, by simp, .refl _⟩)

/-- codec.PutText. -/
theorem putText_ok (b : AV) (es : List (List AV)) (l : List UInt8) (hp : Hp) (hb : Sl hp 1 b es) (hl : es.length ≤ 4294967296) : Ans tis funs hints 66 [b, .str l] hp (Put hp (es.length + 65540) (if l.length ≤ 65536 then 0 else 2)) := by
  refine ans_of rfl rfl rfl rfl ?_
  apply x_nf
  repeat (first | exact NF.nil rfl | apply NF.v rfl | apply NF.lr rfl | apply NF.no rfl)
  refine x_seq (x_region rfl rfl (xr_run 2 rfl rfl (xr_end ?_)))
  apply x_nf
  repeat (first | exact NF.nil rfl | apply NF.v rfl | apply NF.lr rfl | apply NF.no rfl)
  refine x_seq (x_seq (x_region rfl rfl (xr_run 3 rfl rfl (xr_end ?_))))
  apply x_nf
  repeat (first | exact NF.nil rfl | apply NF.v rfl | apply NF.lr rfl | apply NF.no rfl)
  refine x_cond rfl (fun hc => ?_) (fun hc => ?_)
  · have hc := of_decide_eq_true hc
    rw [if_neg (by omega)]
    refine x_seq (x_region rfl rfl (xr_run 2 rfl rfl (xr_end ?_)))
    apply x_nf
    repeat (first | exact NF.nil rfl | apply NF.v rfl | apply NF.lr rfl | apply NF.no rfl)
    exact x_ret (ends_ret rfl rfl ⟨.nils, [], rfl, .nil, by simp, .refl _⟩)
  · have hc := of_decide_eq_false hc
    rw [if_pos (by omega)]
    refine x_skip (x_seq (x_region rfl rfl (xr_run 4 rfl rfl ?_)))
    obtain ⟨r, hp', hc2, x, es', rfl, h1, h2, h3⟩ := laid_ok b es 4 (fwrap .u64 (l.length : Nat)) hp hb hl (by decide) (by decide)
    refine xr_call (asked0 rfl) rfl rfl rfl rfl hc2 rk_nil (xr_run 1 rfl rfl ?_)
    obtain ⟨v, hp2, a1, a2, a3⟩ := h1.append (e := 5) (bytes := 1) h3 (l.map fun b => [AV.int .u8 (b.toNat : Int)]) (by simp) (by rw [h2, List.length_map]; have := hc; simp; omega) (by decide)
    rw [List.length_map] at a1
    refine xr_append (asked0 rfl) rfl rfl rfl rfl rfl rfl rfl rfl (flat_str hp' l) a1 rk_nil (xr_run 2 rfl rfl (xr_end ?_))
    apply x_nf
    repeat (first | exact NF.nil rfl | apply NF.v rfl | apply NF.lr rfl | apply NF.no rfl)
    refine x_ret (ends_ret rfl rfl ⟨v, _, rfl, a2, ?_, a3⟩)
    rw [List.length_append, h2, List.length_map]
    simp
    omega
end Go.Eng.Try

/- STABLE 3: the contracts of wire's writer: a number, a text. -/
set_option linter.unusedVariables false
set_option maxHeartbeats 2000000
namespace Go.Eng.Try
open Go Go.Proofs Go.Eng

/-- A writer with at most so many bytes. -/
def Wr (w : Nat) (hp : Hp) (n : Nat) : Prop := ∃ ty x es, w < hp.n ∧ hp.get w = some ⟨ty, [x]⟩ ∧ SlF (w + 1) hp 1 x es ∧ es.length ≤ n
/-- What a writer's method answers: it went well, or an error was thrown. -/
def WPost (w : Nat) (hp : Hp) (n : Nat) (e : Int) (r : Res) (hp' : Hp) : Prop := GB w hp hp' ∧ ((e = 0 ∧ r = .ret (.tup []) ∧ Wr w hp' n) ∨ (e ≠ 0 ∧ r = .panic (.iface 92 (.agg [.int .i64 e]))))

def numE (n : Int) : Int := if 0 ≤ n ∧ n ≤ 1000000000 then 0 else 1
def textE (l : List UInt8) : Int := if l.length ≤ 65536 then 0 else 2

theorem wNumber_ok (w : Nat) (m : Nat) (n : Int) (hp : Hp) (hw : Wr w hp m) (hm : m ≤ 4294967296) : Ans tis funs hints 57 [.ptr w 0, .int .i64 n] hp (WPost w hp (m + 4) (numE n)) := by
  obtain ⟨ty, x, es, hwn, hg, hs, hl⟩ := hw
  obtain ⟨r, hp', hc, x', es', rfl, h1, h2, h3⟩ := putNumber_ok x es n hp hs.sl (by omega)
  refine ans_of rfl rfl rfl rfl ?_
  apply x_nf
  repeat (first | exact NF.nil rfl | apply NF.v rfl | apply NF.lr rfl | apply NF.no rfl)
  refine x_seq (x_region rfl rfl (xr_run 3 rfl rfl (xr_pure (asked0 rfl) (pLoadV rfl rfl (rd_ptr hg rfl) rfl) rfl rfl rfl (xr_run 1 rfl rfl ?_))))
  refine xr_call (asked0 rfl) rfl rfl rfl rfl hc rk_nil (xr_run 5 rfl rfl (xr_end ?_))
  apply x_nf
  repeat (first | exact NF.nil rfl | apply NF.v rfl | apply NF.lr rfl | apply NF.no rfl)
  refine x_seq (x_seq (x_region rfl rfl (xr_run 2 rfl rfl (xr_end ?_))))
  apply x_nf
  repeat (first | exact NF.nil rfl | apply NF.v rfl | apply NF.lr rfl | apply NF.no rfl)
  have hg' : hp'.get w = some ⟨ty, [x]⟩ := (h3.get w hwn).trans hg
  unfold numE
  by_cases hn : 0 ≤ n ∧ n ≤ 1000000000
  · simp only [if_pos hn]
    refine x_cond rfl (fun hc => by cases hc) (fun hc => x_skip (x_region rfl rfl (xr_run 4 rfl rfl ?_)))
    refine xr_storeH (asked0 rfl) rfl rfl rfl rfl rfl (h1.sl.st rfl) hg' (h1.sl.wr rfl) rk_nil (xr_end ?_)
    refine ends_ret rfl rfl ⟨(h3.gb w).put _, .inl ⟨rfl, rfl, ty, x', es', ?_, ?_, ?_, by omega⟩⟩
    · exact Nat.lt_of_lt_of_le hwn h3.n
    · rw [Hp.get_put, if_pos rfl]; rfl
    · exact (h1.weak (by omega)).gb ((GB.refl w hp').put _) (by omega)
  · simp only [if_neg hn]
    refine x_cond rfl (fun hc => x_region rfl rfl (xr_run 3 rfl rfl ?_)) (fun hc => by cases hc)
    refine xr_panicOp (asked0 rfl) rfl rfl ?_
    exact ends_panic ⟨h3.gb w, .inr ⟨by decide, rfl⟩⟩
theorem wText_ok (w : Nat) (m : Nat) (l : List UInt8) (hp : Hp) (hw : Wr w hp m) (hm : m ≤ 4294967296) : Ans tis funs hints 59 [.ptr w 0, .str l] hp (WPost w hp (m + 65540) (textE l)) := by
  obtain ⟨ty, x, es, hwn, hg, hs, hl⟩ := hw
  obtain ⟨r, hp', hc, x', es', rfl, h1, h2, h3⟩ := putText_ok x es l hp hs.sl (by omega)
  refine ans_of rfl rfl rfl rfl ?_
  apply x_nf
  repeat (first | exact NF.nil rfl | apply NF.v rfl | apply NF.lr rfl | apply NF.no rfl)
  refine x_seq (x_region rfl rfl (xr_run 3 rfl rfl (xr_pure (asked0 rfl) (pLoadV rfl rfl (rd_ptr hg rfl) rfl) rfl rfl rfl (xr_run 1 rfl rfl ?_))))
  refine xr_call (asked0 rfl) rfl rfl rfl rfl hc rk_nil (xr_run 5 rfl rfl (xr_end ?_))
  apply x_nf
  repeat (first | exact NF.nil rfl | apply NF.v rfl | apply NF.lr rfl | apply NF.no rfl)
  refine x_seq (x_seq (x_region rfl rfl (xr_run 2 rfl rfl (xr_end ?_))))
  apply x_nf
  repeat (first | exact NF.nil rfl | apply NF.v rfl | apply NF.lr rfl | apply NF.no rfl)
  have hg' : hp'.get w = some ⟨ty, [x]⟩ := (h3.get w hwn).trans hg
  unfold textE
  by_cases hn : l.length ≤ 65536
  · simp only [if_pos hn]
    refine x_cond rfl (fun hc => by cases hc) (fun hc => x_skip (x_region rfl rfl (xr_run 4 rfl rfl ?_)))
    refine xr_storeH (asked0 rfl) rfl rfl rfl rfl rfl (h1.sl.st rfl) hg' (h1.sl.wr rfl) rk_nil (xr_end ?_)
    refine ends_ret rfl rfl ⟨(h3.gb w).put _, .inl ⟨rfl, rfl, ty, x', es', ?_, ?_, ?_, by omega⟩⟩
    · exact Nat.lt_of_lt_of_le hwn h3.n
    · rw [Hp.get_put, if_pos rfl]; rfl
    · exact (h1.weak (by omega)).gb ((GB.refl w hp').put _) (by omega)
  · simp only [if_neg hn]
    refine x_cond rfl (fun hc => x_region rfl rfl (xr_run 3 rfl rfl ?_)) (fun hc => by cases hc)
    refine xr_panicOp (asked0 rfl) rfl rfl ?_
    exact ends_panic ⟨h3.gb w, .inr ⟨by decide, rfl⟩⟩
end Go.Eng.Try

/- STABLE 4: the contracts of wire's writer: a set, a configuration. -/
set_option linter.unusedVariables false
set_option maxHeartbeats 2000000
namespace Go.Eng.Try
open Go Go.Proofs Go.Eng

/-- The first error. -/
def fe : List Int → Int
  | [] => 0
  | e :: l => if e = 0 then fe l else e
theorem fe_append : ∀ (a b : List Int), fe (a ++ b) = if fe a = 0 then fe b else fe a
  | [], b => by simp [fe]
  | e :: l, b => by
    simp only [List.cons_append, fe, fe_append l b]
    by_cases h : e = 0
    · simp [h]
    · simp [h]
def ints (ns : List Int) : List (List AV) := ns.map fun n => [.int .i64 n]
def setE (ns : List Int) : Int := if ns.length ≤ 4096 then fe (ns.map numE) else 2

theorem many_ok (w m : Nat) (ns : List Int) (a : AV) (hp0 hp : Hp) (ha : Sl hp0 1 a (ints ns)) (g : Grow hp0 hp) (hw0 : hp0.n ≤ w) (hw : Wr w hp m) (hm : m ≤ 2147483648) :
    Ans tis funs hints 65 [.ptr w 0, a, .fn 57 []] hp (WPost w hp (m + 16388) (setE ns)) := by
  have hlen : (ints ns).length = ns.length := by simp [ints]
  have ha1 := ha.len (T := tis) (t := 22) rfl rfl
  rw [hlen] at ha1
  refine ans_of rfl rfl rfl rfl ?_
  apply x_nf
  repeat (first | exact NF.nil rfl | apply NF.v rfl | apply NF.lr rfl | apply NF.no rfl)
  refine x_seq (x_seq (x_region rfl rfl (xr_run 1 rfl rfl (xr_pure (asked0 rfl) (pLen rfl rfl rfl ha1) rfl rfl rfl (xr_run 1 rfl rfl (xr_end ?_))))))
  apply x_nf
  repeat (first | exact NF.nil rfl | apply NF.v rfl | apply NF.lr rfl | apply NF.no rfl)
  unfold setE
  refine x_cond rfl (fun hc => ?_) (fun hc => ?_)
  · have hc := of_decide_eq_true hc
    rw [if_neg (by omega)]
    refine x_region rfl rfl (xr_run 2 rfl rfl ?_)
    refine xr_panicOp (asked0 rfl) rfl rfl ?_
    exact ends_panic ⟨.refl _ _, .inr ⟨by decide, rfl⟩⟩
  · have hc := of_decide_eq_false hc
    rw [if_pos (by omega)]
    obtain ⟨r, hp1, hc1, hg1, h1⟩ := wNumber_ok w m (ns.length : Nat) hp hw (by omega)
    have he : numE (ns.length : Nat) = 0 := by unfold numE; rw [if_pos (by omega)]
    rw [he] at h1
    rcases h1 with ⟨_, rfl, hw1⟩ | ⟨h, _⟩
    case inr => exact absurd rfl h
    refine x_skip (x_seq (x_region rfl rfl (xr_run 2 rfl rfl (xr_pure (asked0 rfl) (pLen rfl rfl rfl ha1) rfl rfl rfl ?_))))
    refine xr_call (asked0 rfl) rfl rfl rfl rfl hc1 rk_nil (xr_end ?_)
    apply x_nf
    repeat (first | exact NF.nil rfl | apply NF.v rfl | apply NF.lr rfl | apply NF.no rfl)
    refine x_seq (x_region rfl rfl (xr_run 1 rfl rfl (xr_pure (asked0 rfl) (pLen rfl rfl rfl ha1) rfl rfl rfl (xr_run 1 rfl rfl (xr_end ?_)))))
    apply x_nf
    repeat (first | exact NF.nil rfl | apply NF.v rfl | apply NF.lr rfl | apply NF.no rfl)
    refine x_block ?_
    refine x_loopE (α := Int) (fun i => [(0, .v (.ptr w 0)), (2, .v (.fn 57 [])), (17, .v a), (18, .v (.int .i64 (ns.length : Nat))), (19, .v (.int .i64 i))]) (fun _ => [])
      (fun i h df => 0 ≤ i ∧ i ≤ ns.length ∧ df = [] ∧ GB w hp h ∧ Wr w h (m + 4 + 4 * i.toNat) ∧ fe (ns.map numE) = fe ((ns.drop i.toNat).map numE)) (fun i => ((ns.length : Int) - i).toNat) 0 (by repeat (first | exact Sub.nil | apply Sub.cons rfl)) SubC.nil
      ⟨by omega, by omega, rfl, hg1, hw1, rfl⟩ ?_
    rintro i h df ⟨hi0, hin, rfl, hg, hwr, hfe⟩
    refine x_seq (x_region rfl rfl (xr_run 1 rfl rfl (xr_end ?_)))
    apply x_nf
    repeat (first | exact NF.nil rfl | apply NF.v rfl | apply NF.lr rfl | apply NF.no rfl)
    refine x_seq (x_cond rfl (fun hlt => ?_) (fun hlt => ?_))
    · have hlt := of_decide_eq_true hlt
      have hi : i.toNat < ns.length := by omega
      obtain ⟨p, hp1, hp2⟩ := ha.idx (T := tis) (t := 22) rfl rfl hi0 (by rw [hlen]; exact hi)
      have hrd := hp2 h (hg.grow g hw0)
      have hel : (ints ns)[i.toNat]'(by rw [hlen]; exact hi) = [.int .i64 ns[i.toNat]] := by simp [ints]
      rw [hel] at hrd
      refine x_skip (x_seq (x_block (x_seq (x_region rfl rfl (xr_pure (asked0 rfl) (pIndexAddr rfl rfl hp1) rfl rfl rfl (xr_pure (asked0 rfl) (pLoadV rfl rfl hrd rfl) rfl rfl rfl (xr_run 1 rfl rfl (xr_end ?_))))))))
      apply x_nf
      repeat (first | exact NF.nil rfl | apply NF.v rfl | apply NF.lr rfl | apply NF.no rfl)
      refine x_region rfl rfl (xr_run 3 rfl rfl ?_)
      obtain ⟨r, hp3, hc3, hg3, h3⟩ := wNumber_ok w _ ns[i.toNat] h hwr (by omega)
      have hdrop : (ns.drop i.toNat).map numE = numE ns[i.toNat] :: (ns.drop (i.toNat + 1)).map numE := by
        rw [List.drop_eq_getElem_cons hi, List.map_cons]
      rw [hdrop] at hfe
      simp only [fe] at hfe
      rcases h3 with ⟨h0, rfl, hw3⟩ | ⟨h0, rfl⟩
      · rw [if_pos h0] at hfe
        refine xr_call (asked0 rfl) rfl rfl rfl rfl hc3 rk_nil (xr_end ?_)
        apply x_nf
        repeat (first | exact NF.nil rfl | apply NF.v rfl | apply NF.lr rfl | apply NF.no rfl)
        refine x_region rfl rfl (xr_run 1 rfl rfl ?_)
        rw [fwrap_i64 (by omega) (by omega)]
        refine xr_run 1 rfl rfl (xr_end ?_)
        have e1 : (i + 1).toNat = i.toNat + 1 := by omega
        refine ⟨i + 1, by show ((ns.length : Int) - (i + 1)).toNat < ((ns.length : Int) - i).toNat; omega, ?_, SubC.nil, by omega, by omega, rfl, hg.trans hg3, ?_, ?_⟩
        · repeat (first | exact Sub.nil | apply Sub.cons rfl)
        · rw [e1]; exact hw3
        · rw [e1]; exact hfe
      · rw [if_neg h0] at hfe
        refine xr_callP (asked0 rfl) rfl rfl rfl hc3 ?_
        refine ends_panic ⟨hg.trans hg3, .inr ⟨by rw [hfe]; exact h0, by rw [hfe]⟩⟩
    · have hlt := of_decide_eq_false hlt
      refine x_exit (ends_ret rfl rfl ⟨hg, .inl ⟨?_, rfl, ?_⟩⟩)
      · rw [hfe, List.drop_of_length_le (by omega)]; rfl
      · obtain ⟨ty, x, es, q1, q2, q3, q4⟩ := hwr
        exact ⟨ty, x, es, q1, q2, q3, by omega⟩
end Go.Eng.Try

/- STABLE 5: the contracts of wire's writer: a configuration, a record. -/
set_option linter.unusedVariables false
set_option maxHeartbeats 4000000
namespace Go.Eng.Try
open Go Go.Proofs Go.Eng

structure Cfg where
  v : List Int
  l : List Int
def Cfg.e (c : Cfg) : Int := fe [setE c.v, setE c.l]
/-- A configuration's cells. -/
def CfgAt (h : Hp) (c : Cfg) : List AV → Prop
  | [a, b] => Sl h 1 a (ints c.v) ∧ Sl h 1 b (ints c.l)
  | _ => False

theorem Wr.mono {w : Nat} {hp : Hp} {n m : Nat} (h : Wr w hp n) (hm : n ≤ m) : Wr w hp m := by
  obtain ⟨ty, x, es, q1, q2, q3, q4⟩ := h
  exact ⟨ty, x, es, q1, q2, q3, by omega⟩

theorem wConfig_ok (w m : Nat) (c : Cfg) (cs : List AV) (hp0 hp : Hp) (hc : CfgAt hp0 c cs) (g : Grow hp0 hp) (hw0 : hp0.n ≤ w) (hw : Wr w hp m) (hm : m ≤ 1073741824) :
    Ans tis funs hints 58 [.ptr w 0, .agg cs] hp (WPost w hp (m + 32776) c.e) := by
  match cs, hc with
  | [a, b], ⟨ha, hb⟩ =>
    have ha1 := ha.one
    have hb1 := hb.one
    refine ans_of rfl rfl rfl rfl ?_
    apply x_nf
    repeat (first | exact NF.nil rfl | apply NF.v rfl | apply NF.lr rfl | apply NF.no rfl)
    refine x_seq (x_region rfl rfl (xr_boxL (asked0 rfl) rfl rfl rfl rfl rfl rfl (by simp [AV.cells, ha1, hb1]) rk_nil (xr_end ?_)))
    apply x_nf
    repeat (first | exact NF.nil rfl | apply NF.v rfl | apply NF.lr rfl | apply NF.no rfl)
    obtain ⟨r, hp1, hc1, hg1, h1⟩ := many_ok w m c.v a hp0 hp ha g hw0 hw (by omega)
    rcases h1 with ⟨h0, rfl, hw1⟩ | ⟨h0, rfl⟩
    · refine x_seq (x_region rfl rfl (xr_run 3 rfl rfl ?_))
      refine xr_call (asked0 rfl) rfl rfl rfl rfl hc1 rk_nil (xr_end ?_)
      apply x_nf
      repeat (first | exact NF.nil rfl | apply NF.v rfl | apply NF.lr rfl | apply NF.no rfl)
      obtain ⟨r, hp2, hc2, hg2, h2⟩ := many_ok w _ c.l b hp0 hp1 hb (hg1.grow g hw0) hw0 hw1 (by omega)
      have hce : c.e = setE c.l := by
        simp only [Cfg.e, fe, if_pos h0]
        split <;> simp_all
      rw [hce]
      rcases h2 with ⟨h0, rfl, hw2⟩ | ⟨h0, rfl⟩
      · refine x_region rfl rfl (xr_run 3 rfl rfl ?_)
        refine xr_call (asked0 rfl) rfl rfl rfl rfl hc2 rk_nil (xr_end ?_)
        exact ends_ret rfl rfl ⟨hg1.trans hg2, .inl ⟨h0, rfl, hw2.mono (by omega)⟩⟩
      · refine x_region rfl rfl (xr_run 3 rfl rfl ?_)
        refine xr_callP (asked0 rfl) rfl rfl rfl hc2 ?_
        exact ends_panic ⟨hg1.trans hg2, .inr ⟨h0, rfl⟩⟩
    · have hce : c.e = setE c.v := by simp only [Cfg.e, fe, if_neg h0]
      rw [hce]
      refine x_seq (x_region rfl rfl (xr_run 3 rfl rfl ?_))
      refine xr_callP (asked0 rfl) rfl rfl rfl hc1 ?_
      exact ends_panic ⟨hg1, .inr ⟨h0, rfl⟩⟩

structure Ent where
  i : Int
  t : Int
  k : Int
  c : Cfg
  d : List UInt8
structure Snp where
  i : Int
  t : Int
  c : Cfg
  d : List UInt8
structure Rcd where
  k : Int
  t : Int
  v : Int
  e : Ent
  i : Int
  s : Snp
/-- An entry's cells. -/
def EntAt (h : Hp) (e : Ent) : List AV → Prop
  | [i, t, k, a, b, d] => i = .int .i64 e.i ∧ t = .int .i64 e.t ∧ k = .int .i64 e.k ∧ CfgAt h e.c [a, b] ∧ d = .str e.d
  | _ => False
def SnpAt (h : Hp) (e : Snp) : List AV → Prop
  | [i, t, a, b, d] => i = .int .i64 e.i ∧ t = .int .i64 e.t ∧ CfgAt h e.c [a, b] ∧ d = .str e.d
  | _ => False
def RcdAt (h : Hp) (r : Rcd) : List AV → Prop
  | [k, t, v, e1, e2, e3, e4, e5, e6, i, s1, s2, s3, s4, s5] => k = .int .i64 r.k ∧ t = .int .i64 r.t ∧ v = .int .i64 r.v ∧ EntAt h r.e [e1, e2, e3, e4, e5, e6] ∧ i = .int .i64 r.i ∧ SnpAt h r.s [s1, s2, s3, s4, s5]
  | _ => False
end Go.Eng.Try

/- STABLE 6: the contract of wire's writer: a record. Written by a program of mine (gen_rec.py). -/
set_option linter.unusedVariables false
set_option maxHeartbeats 8000000
set_option maxRecDepth 100000
namespace Go.Eng.Try
open Go Go.Proofs Go.Eng

theorem one_int (k : IntKind) (n : Int) : (AV.int k n).one = true := rfl
theorem one_str (l : List UInt8) : (AV.str l).one = true := rfl
def Rcd.e' (r : Rcd) : Int := fe [numE r.k, numE r.t, numE r.v, numE r.e.i, numE r.e.t, numE r.e.k, r.e.c.e, textE r.e.d, numE r.i, numE r.s.i, numE r.s.t, r.s.c.e, textE r.s.d]
theorem wRecord_ok (w m : Nat) (r : Rcd) (cs : List AV) (hp0 hp : Hp) (hr : RcdAt hp0 r cs) (g : Grow hp0 hp) (hw0 : hp0.n ≤ w) (hw : Wr w hp m) (hm : m ≤ 1000000) :
    Ans tis funs hints 48 [.ptr w 0, .agg cs] hp (WPost w hp (m + 300000) r.e') := by
  match cs, hr with
  | [k, t, v, e1, e2, e3, e4, e5, e6, i, s1, s2, s3, s4, s5], ⟨hk, ht, hv, ⟨he1, he2, he3, hec, he6⟩, hi, ⟨hs1, hs2, hsc, hs5⟩⟩ =>
    subst hk ht hv he1 he2 he3 he6 hi hs1 hs2 hs5
    have o1 := hec.1.one
    have o2 := hec.2.one
    have o3 := hsc.1.one
    have o4 := hsc.2.one
    refine ans_of rfl rfl rfl rfl ?_
    apply x_nf
    repeat (first | exact NF.nil rfl | apply NF.v rfl | apply NF.lr rfl | apply NF.no rfl)
    refine x_seq (x_region rfl rfl (xr_boxL (asked0 rfl) rfl rfl rfl rfl rfl rfl (by simp only [AV.cells, List.all_cons, List.all_nil, one_int, one_str, o1, o2, o3, o4]; rfl) rk_nil (xr_end ?_)))
    apply x_nf
    repeat (first | exact NF.nil rfl | apply NF.v rfl | apply NF.lr rfl | apply NF.no rfl)
    have hE : r.e' = fe [numE r.k, numE r.t, numE r.v, numE r.e.i, numE r.e.t, numE r.e.k, r.e.c.e, textE r.e.d, numE r.i, numE r.s.i, numE r.s.t, r.s.c.e, textE r.s.d] := rfl
    have hg0 := GB.refl w hp
    have hw_0 := hw
    obtain ⟨q, hp1, hc1, hn1, h1⟩ := wNumber_ok w (m + 0) r.k hp hw_0 (by omega)
    have hg1 := hg0.trans hn1
    rcases h1 with ⟨h0, rfl, hw_1⟩ | ⟨h0, rfl⟩
    case inr =>
      have hE := hE.trans (show fe (_ :: _) = numE r.k from by simp only [fe, if_neg h0])
      refine x_seq (x_region rfl rfl (xr_run 3 rfl rfl ?_))
      refine xr_callP (asked0 rfl) rfl rfl rfl hc1 ?_
      exact ends_panic ⟨hg1, .inr ⟨by rw [hE]; exact h0, by rw [hE]⟩⟩
    replace hE := hE.trans (show fe (_ :: _) = fe [numE r.t, numE r.v, numE r.e.i, numE r.e.t, numE r.e.k, r.e.c.e, textE r.e.d, numE r.i, numE r.s.i, numE r.s.t, r.s.c.e, textE r.s.d] from by simp only [fe, if_pos h0])
    refine x_seq (x_region rfl rfl (xr_run 3 rfl rfl ?_))
    refine xr_call (asked0 rfl) rfl rfl rfl rfl hc1 rk_nil (xr_end ?_)
    apply x_nf
    repeat (first | exact NF.nil rfl | apply NF.v rfl | apply NF.lr rfl | apply NF.no rfl)
    obtain ⟨q, hp2, hc2, hn2, h2⟩ := wNumber_ok w (m + 4) r.t hp1 hw_1 (by omega)
    have hg2 := hg1.trans hn2
    rcases h2 with ⟨h0, rfl, hw_2⟩ | ⟨h0, rfl⟩
    case inr =>
      have hE := hE.trans (show fe (_ :: _) = numE r.t from by simp only [fe, if_neg h0])
      refine x_seq (x_region rfl rfl (xr_run 3 rfl rfl ?_))
      refine xr_callP (asked0 rfl) rfl rfl rfl hc2 ?_
      exact ends_panic ⟨hg2, .inr ⟨by rw [hE]; exact h0, by rw [hE]⟩⟩
    replace hE := hE.trans (show fe (_ :: _) = fe [numE r.v, numE r.e.i, numE r.e.t, numE r.e.k, r.e.c.e, textE r.e.d, numE r.i, numE r.s.i, numE r.s.t, r.s.c.e, textE r.s.d] from by simp only [fe, if_pos h0])
    refine x_seq (x_region rfl rfl (xr_run 3 rfl rfl ?_))
    refine xr_call (asked0 rfl) rfl rfl rfl rfl hc2 rk_nil (xr_end ?_)
    apply x_nf
    repeat (first | exact NF.nil rfl | apply NF.v rfl | apply NF.lr rfl | apply NF.no rfl)
    obtain ⟨q, hp3, hc3, hn3, h3⟩ := wNumber_ok w (m + 8) r.v hp2 hw_2 (by omega)
    have hg3 := hg2.trans hn3
    rcases h3 with ⟨h0, rfl, hw_3⟩ | ⟨h0, rfl⟩
    case inr =>
      have hE := hE.trans (show fe (_ :: _) = numE r.v from by simp only [fe, if_neg h0])
      refine x_seq (x_region rfl rfl (xr_run 3 rfl rfl ?_))
      refine xr_callP (asked0 rfl) rfl rfl rfl hc3 ?_
      exact ends_panic ⟨hg3, .inr ⟨by rw [hE]; exact h0, by rw [hE]⟩⟩
    replace hE := hE.trans (show fe (_ :: _) = fe [numE r.e.i, numE r.e.t, numE r.e.k, r.e.c.e, textE r.e.d, numE r.i, numE r.s.i, numE r.s.t, r.s.c.e, textE r.s.d] from by simp only [fe, if_pos h0])
    refine x_seq (x_region rfl rfl (xr_run 3 rfl rfl ?_))
    refine xr_call (asked0 rfl) rfl rfl rfl rfl hc3 rk_nil (xr_end ?_)
    apply x_nf
    repeat (first | exact NF.nil rfl | apply NF.v rfl | apply NF.lr rfl | apply NF.no rfl)
    obtain ⟨q, hp4, hc4, hn4, h4⟩ := wNumber_ok w (m + 12) r.e.i hp3 hw_3 (by omega)
    have hg4 := hg3.trans hn4
    rcases h4 with ⟨h0, rfl, hw_4⟩ | ⟨h0, rfl⟩
    case inr =>
      have hE := hE.trans (show fe (_ :: _) = numE r.e.i from by simp only [fe, if_neg h0])
      refine x_seq (x_region rfl rfl (xr_run 4 rfl rfl ?_))
      refine xr_callP (asked0 rfl) rfl rfl rfl hc4 ?_
      exact ends_panic ⟨hg4, .inr ⟨by rw [hE]; exact h0, by rw [hE]⟩⟩
    replace hE := hE.trans (show fe (_ :: _) = fe [numE r.e.t, numE r.e.k, r.e.c.e, textE r.e.d, numE r.i, numE r.s.i, numE r.s.t, r.s.c.e, textE r.s.d] from by simp only [fe, if_pos h0])
    refine x_seq (x_region rfl rfl (xr_run 4 rfl rfl ?_))
    refine xr_call (asked0 rfl) rfl rfl rfl rfl hc4 rk_nil (xr_end ?_)
    apply x_nf
    repeat (first | exact NF.nil rfl | apply NF.v rfl | apply NF.lr rfl | apply NF.no rfl)
    obtain ⟨q, hp5, hc5, hn5, h5⟩ := wNumber_ok w (m + 16) r.e.t hp4 hw_4 (by omega)
    have hg5 := hg4.trans hn5
    rcases h5 with ⟨h0, rfl, hw_5⟩ | ⟨h0, rfl⟩
    case inr =>
      have hE := hE.trans (show fe (_ :: _) = numE r.e.t from by simp only [fe, if_neg h0])
      refine x_seq (x_region rfl rfl (xr_run 4 rfl rfl ?_))
      refine xr_callP (asked0 rfl) rfl rfl rfl hc5 ?_
      exact ends_panic ⟨hg5, .inr ⟨by rw [hE]; exact h0, by rw [hE]⟩⟩
    replace hE := hE.trans (show fe (_ :: _) = fe [numE r.e.k, r.e.c.e, textE r.e.d, numE r.i, numE r.s.i, numE r.s.t, r.s.c.e, textE r.s.d] from by simp only [fe, if_pos h0])
    refine x_seq (x_region rfl rfl (xr_run 4 rfl rfl ?_))
    refine xr_call (asked0 rfl) rfl rfl rfl rfl hc5 rk_nil (xr_end ?_)
    apply x_nf
    repeat (first | exact NF.nil rfl | apply NF.v rfl | apply NF.lr rfl | apply NF.no rfl)
    obtain ⟨q, hp6, hc6, hn6, h6⟩ := wNumber_ok w (m + 20) r.e.k hp5 hw_5 (by omega)
    have hg6 := hg5.trans hn6
    rcases h6 with ⟨h0, rfl, hw_6⟩ | ⟨h0, rfl⟩
    case inr =>
      have hE := hE.trans (show fe (_ :: _) = numE r.e.k from by simp only [fe, if_neg h0])
      refine x_seq (x_region rfl rfl (xr_run 4 rfl rfl ?_))
      refine xr_callP (asked0 rfl) rfl rfl rfl hc6 ?_
      exact ends_panic ⟨hg6, .inr ⟨by rw [hE]; exact h0, by rw [hE]⟩⟩
    replace hE := hE.trans (show fe (_ :: _) = fe [r.e.c.e, textE r.e.d, numE r.i, numE r.s.i, numE r.s.t, r.s.c.e, textE r.s.d] from by simp only [fe, if_pos h0])
    refine x_seq (x_region rfl rfl (xr_run 4 rfl rfl ?_))
    refine xr_call (asked0 rfl) rfl rfl rfl rfl hc6 rk_nil (xr_end ?_)
    apply x_nf
    repeat (first | exact NF.nil rfl | apply NF.v rfl | apply NF.lr rfl | apply NF.no rfl)
    obtain ⟨q, hp7, hc7, hn7, h7⟩ := wConfig_ok w (m + 24) r.e.c _ hp0 hp6 hec (hg6.grow g hw0) hw0 hw_6 (by omega)
    have hg7 := hg6.trans hn7
    rcases h7 with ⟨h0, rfl, hw_7⟩ | ⟨h0, rfl⟩
    case inr =>
      have hE := hE.trans (show fe (_ :: _) = r.e.c.e from by simp only [fe, if_neg h0])
      refine x_seq (x_region rfl rfl (xr_run 4 rfl rfl ?_))
      refine xr_callP (asked0 rfl) rfl rfl rfl hc7 ?_
      exact ends_panic ⟨hg7, .inr ⟨by rw [hE]; exact h0, by rw [hE]⟩⟩
    replace hE := hE.trans (show fe (_ :: _) = fe [textE r.e.d, numE r.i, numE r.s.i, numE r.s.t, r.s.c.e, textE r.s.d] from by simp only [fe, if_pos h0])
    refine x_seq (x_region rfl rfl (xr_run 4 rfl rfl ?_))
    refine xr_call (asked0 rfl) rfl rfl rfl rfl hc7 rk_nil (xr_end ?_)
    apply x_nf
    repeat (first | exact NF.nil rfl | apply NF.v rfl | apply NF.lr rfl | apply NF.no rfl)
    obtain ⟨q, hp8, hc8, hn8, h8⟩ := wText_ok w (m + 32800) r.e.d hp7 hw_7 (by omega)
    have hg8 := hg7.trans hn8
    rcases h8 with ⟨h0, rfl, hw_8⟩ | ⟨h0, rfl⟩
    case inr =>
      have hE := hE.trans (show fe (_ :: _) = textE r.e.d from by simp only [fe, if_neg h0])
      refine x_seq (x_region rfl rfl (xr_run 4 rfl rfl ?_))
      refine xr_callP (asked0 rfl) rfl rfl rfl hc8 ?_
      exact ends_panic ⟨hg8, .inr ⟨by rw [hE]; exact h0, by rw [hE]⟩⟩
    replace hE := hE.trans (show fe (_ :: _) = fe [numE r.i, numE r.s.i, numE r.s.t, r.s.c.e, textE r.s.d] from by simp only [fe, if_pos h0])
    refine x_seq (x_region rfl rfl (xr_run 4 rfl rfl ?_))
    refine xr_call (asked0 rfl) rfl rfl rfl rfl hc8 rk_nil (xr_end ?_)
    apply x_nf
    repeat (first | exact NF.nil rfl | apply NF.v rfl | apply NF.lr rfl | apply NF.no rfl)
    obtain ⟨q, hp9, hc9, hn9, h9⟩ := wNumber_ok w (m + 98340) r.i hp8 hw_8 (by omega)
    have hg9 := hg8.trans hn9
    rcases h9 with ⟨h0, rfl, hw_9⟩ | ⟨h0, rfl⟩
    case inr =>
      have hE := hE.trans (show fe (_ :: _) = numE r.i from by simp only [fe, if_neg h0])
      refine x_seq (x_region rfl rfl (xr_run 3 rfl rfl ?_))
      refine xr_callP (asked0 rfl) rfl rfl rfl hc9 ?_
      exact ends_panic ⟨hg9, .inr ⟨by rw [hE]; exact h0, by rw [hE]⟩⟩
    replace hE := hE.trans (show fe (_ :: _) = fe [numE r.s.i, numE r.s.t, r.s.c.e, textE r.s.d] from by simp only [fe, if_pos h0])
    refine x_seq (x_region rfl rfl (xr_run 3 rfl rfl ?_))
    refine xr_call (asked0 rfl) rfl rfl rfl rfl hc9 rk_nil (xr_end ?_)
    apply x_nf
    repeat (first | exact NF.nil rfl | apply NF.v rfl | apply NF.lr rfl | apply NF.no rfl)
    obtain ⟨q, hp10, hc10, hn10, h10⟩ := wNumber_ok w (m + 98344) r.s.i hp9 hw_9 (by omega)
    have hg10 := hg9.trans hn10
    rcases h10 with ⟨h0, rfl, hw_10⟩ | ⟨h0, rfl⟩
    case inr =>
      have hE := hE.trans (show fe (_ :: _) = numE r.s.i from by simp only [fe, if_neg h0])
      refine x_seq (x_region rfl rfl (xr_run 4 rfl rfl ?_))
      refine xr_callP (asked0 rfl) rfl rfl rfl hc10 ?_
      exact ends_panic ⟨hg10, .inr ⟨by rw [hE]; exact h0, by rw [hE]⟩⟩
    replace hE := hE.trans (show fe (_ :: _) = fe [numE r.s.t, r.s.c.e, textE r.s.d] from by simp only [fe, if_pos h0])
    refine x_seq (x_region rfl rfl (xr_run 4 rfl rfl ?_))
    refine xr_call (asked0 rfl) rfl rfl rfl rfl hc10 rk_nil (xr_end ?_)
    apply x_nf
    repeat (first | exact NF.nil rfl | apply NF.v rfl | apply NF.lr rfl | apply NF.no rfl)
    obtain ⟨q, hp11, hc11, hn11, h11⟩ := wNumber_ok w (m + 98348) r.s.t hp10 hw_10 (by omega)
    have hg11 := hg10.trans hn11
    rcases h11 with ⟨h0, rfl, hw_11⟩ | ⟨h0, rfl⟩
    case inr =>
      have hE := hE.trans (show fe (_ :: _) = numE r.s.t from by simp only [fe, if_neg h0])
      refine x_seq (x_region rfl rfl (xr_run 4 rfl rfl ?_))
      refine xr_callP (asked0 rfl) rfl rfl rfl hc11 ?_
      exact ends_panic ⟨hg11, .inr ⟨by rw [hE]; exact h0, by rw [hE]⟩⟩
    replace hE := hE.trans (show fe (_ :: _) = fe [r.s.c.e, textE r.s.d] from by simp only [fe, if_pos h0])
    refine x_seq (x_region rfl rfl (xr_run 4 rfl rfl ?_))
    refine xr_call (asked0 rfl) rfl rfl rfl rfl hc11 rk_nil (xr_end ?_)
    apply x_nf
    repeat (first | exact NF.nil rfl | apply NF.v rfl | apply NF.lr rfl | apply NF.no rfl)
    obtain ⟨q, hp12, hc12, hn12, h12⟩ := wConfig_ok w (m + 98352) r.s.c _ hp0 hp11 hsc (hg11.grow g hw0) hw0 hw_11 (by omega)
    have hg12 := hg11.trans hn12
    rcases h12 with ⟨h0, rfl, hw_12⟩ | ⟨h0, rfl⟩
    case inr =>
      have hE := hE.trans (show fe (_ :: _) = r.s.c.e from by simp only [fe, if_neg h0])
      refine x_seq (x_region rfl rfl (xr_run 4 rfl rfl ?_))
      refine xr_callP (asked0 rfl) rfl rfl rfl hc12 ?_
      exact ends_panic ⟨hg12, .inr ⟨by rw [hE]; exact h0, by rw [hE]⟩⟩
    replace hE := hE.trans (show fe (_ :: _) = fe [textE r.s.d] from by simp only [fe, if_pos h0])
    refine x_seq (x_region rfl rfl (xr_run 4 rfl rfl ?_))
    refine xr_call (asked0 rfl) rfl rfl rfl rfl hc12 rk_nil (xr_end ?_)
    apply x_nf
    repeat (first | exact NF.nil rfl | apply NF.v rfl | apply NF.lr rfl | apply NF.no rfl)
    obtain ⟨q, hp13, hc13, hn13, h13⟩ := wText_ok w (m + 131128) r.s.d hp12 hw_12 (by omega)
    have hg13 := hg12.trans hn13
    rcases h13 with ⟨h0, rfl, hw_13⟩ | ⟨h0, rfl⟩
    case inr =>
      have hE := hE.trans (show fe (_ :: _) = textE r.s.d from by simp only [fe, if_neg h0])
      refine x_region rfl rfl (xr_run 4 rfl rfl ?_)
      refine xr_callP (asked0 rfl) rfl rfl rfl hc13 ?_
      exact ends_panic ⟨hg13, .inr ⟨by rw [hE]; exact h0, by rw [hE]⟩⟩
    replace hE := hE.trans (show fe (_ :: _) = fe [] from by simp only [fe, if_pos h0])
    refine x_region rfl rfl (xr_run 4 rfl rfl ?_)
    refine xr_call (asked0 rfl) rfl rfl rfl rfl hc13 rk_nil (xr_end ?_)
    exact ends_ret rfl rfl ⟨hg13, .inl ⟨by rw [hE]; rfl, rfl, hw_13.mono (by omega)⟩⟩
end Go.Eng.Try

/- STABLE 7: the contract of wire.PutRecord. -/
set_option linter.unusedVariables false
set_option maxHeartbeats 4000000
namespace Go.Eng.Try
open Go Go.Proofs Go.Eng

/-- wire.caught, of nothing. -/
theorem caught_none (p : Nat) (hp : Hp) : DAns tis funs hints 56 [.ptr p 0] .ret hp (fun cm hp' => cm = .ret ∧ hp' = hp) := by
  refine dans_of rfl rfl rfl rfl ?_
  apply xs_nf
  repeat (first | exact NF.nil rfl | apply NF.v rfl | apply NF.lr rfl | apply NF.no rfl)
  refine xs_seq (xs_region rfl (xs_recoverN (asked0 rfl) rfl rfl (xs_run 1 rfl rfl (xs_end ?_))))
  apply xs_nf
  repeat (first | exact NF.nil rfl | apply NF.v rfl | apply NF.lr rfl | apply NF.no rfl)
  refine xs_seq (xs_region rfl (xs_run 2 rfl rfl (xs_end ?_)))
  apply xs_nf
  repeat (first | exact NF.nil rfl | apply NF.v rfl | apply NF.lr rfl | apply NF.no rfl)
  refine xs_cond rfl (fun h => by cases h) (fun h => xs_skipC ⟨.inl rfl, rfl, ⟨_, rfl⟩, rfl, rfl⟩)
/-- wire.caught, of a fault. -/
theorem caught_some (p : Nat) (n : Int) (hp : Hp) (ty : Nat) (c : AV) (hg : hp.get p = some ⟨ty, [c]⟩) : DAns tis funs hints 56 [.ptr p 0] (.pan (.iface 92 (.agg [.int .i64 n]))) hp (fun cm hp' => cm = .recd ∧ hp' = hp.put p ⟨ty, [.int .i64 n]⟩) := by
  refine dans_of rfl rfl rfl rfl ?_
  apply xs_nf
  repeat (first | exact NF.nil rfl | apply NF.v rfl | apply NF.lr rfl | apply NF.no rfl)
  refine xs_seq (xs_region rfl (xs_recoverP (asked0 rfl) rfl rfl (xs_run 1 rfl rfl (xs_end ?_))))
  apply xs_nf
  repeat (first | exact NF.nil rfl | apply NF.v rfl | apply NF.lr rfl | apply NF.no rfl)
  refine xs_seq (xs_region rfl (xs_run 2 rfl rfl (xs_end ?_)))
  apply xs_nf
  repeat (first | exact NF.nil rfl | apply NF.v rfl | apply NF.lr rfl | apply NF.no rfl)
  refine xs_cond rfl (fun h => ?_) (fun h => by cases h)
  refine xs_region rfl (xs_run 5 rfl rfl (xs_storeH (asked0 rfl) rfl rfl rfl rfl rfl rfl hg rfl (xs_end ?_)))
  exact ⟨.inl rfl, rfl, ⟨_, rfl⟩, rfl, rfl⟩
/-- put's first deferred function. -/
theorem put1_ok (p q : Nat) (n : Int) (hp : Hp) (ty ty2 : Nat) (x : AV) (cm : CM) (hg : hp.get p = some ⟨ty, [.int .i64 n]⟩) (hq : hp.get q = some ⟨ty2, [x]⟩) :
    DAns tis funs hints 55 [.ptr p 0, .ptr q 0] cm hp (fun cm' hp' => cm' = cm ∧ ((n = 0 ∧ hp' = hp) ∨ (n ≠ 0 ∧ hp' = hp.put q ⟨ty2, [.nils]⟩))) := by
  refine dans_of rfl rfl rfl rfl ?_
  apply xs_nf
  repeat (first | exact NF.nil rfl | apply NF.v rfl | apply NF.lr rfl | apply NF.no rfl)
  refine xs_seq (xs_region rfl (xs_pure (asked0 rfl) (pLoadV rfl rfl (rd_ptr hg rfl) rfl) rfl rfl (xs_run 1 rfl rfl (xs_end ?_))))
  apply xs_nf
  repeat (first | exact NF.nil rfl | apply NF.v rfl | apply NF.lr rfl | apply NF.no rfl)
  refine xs_cond rfl (fun h => ?_) (fun h => xs_skipC ⟨.inl rfl, rfl, ⟨_, rfl⟩, rfl, .inl ⟨?_, rfl⟩⟩)
  · refine xs_region rfl (xs_storeH (asked0 rfl) rfl rfl rfl rfl rfl rfl hq rfl (xs_end ?_))
    exact ⟨.inl rfl, rfl, ⟨_, rfl⟩, rfl, .inr ⟨by simpa using h, rfl⟩⟩
  · simpa using h
theorem RcdAt.one {h : Hp} {r : Rcd} {cs : List AV} (hr : RcdAt h r cs) : cs.all AV.one = true := by
  match cs, hr with
  | [k, t, v, e1, e2, e3, e4, e5, e6, i, s1, s2, s3, s4, s5], ⟨hk, ht, hv, ⟨he1, he2, he3, hec, he6⟩, hi, ⟨hs1, hs2, hsc, hs5⟩⟩ =>
    subst hk ht hv he1 he2 he3 he6 hi hs1 hs2 hs5
    simp only [List.all_cons, List.all_nil, one_int, one_str, hec.1.one, hec.2.one, hsc.1.one, hsc.2.one]
    rfl
theorem put_ok (r : Rcd) (cs : List AV) (hp : Hp) (hr : RcdAt hp r cs) : Ans tis funs hints 47 [.agg cs, .fn 48 []] hp (fun q hp' => ∃ x es, q = .ret (.tup [x, .int .i64 r.e']) ∧ SlF hp.n hp' 1 x es ∧ es.length ≤ 300000 ∧ Grow hp hp') := by
  have ho := hr.one
  have hlen : cs.length = 15 := by
    match cs, hr with
    | [k, t, v, e1, e2, e3, e4, e5, e6, i, s1, s2, s3, s4, s5], _ => rfl
  refine ans_of rfl rfl rfl rfl ?_
  apply x_nf
  repeat (first | exact NF.nil rfl | apply NF.v rfl | apply NF.lr rfl | apply NF.no rfl)
  refine x_seq (x_region rfl rfl (xr_boxL (asked0 rfl) rfl rfl rfl rfl rfl rfl ho rk_nil ?_))
  refine xr_allocH (asked0 rfl) rfl rfl rfl rfl rk_nil (xr_allocH (asked0 rfl) rfl rfl rfl rfl rk_nil (xr_end ?_))
  apply x_nf
  repeat (first | exact NF.nil rfl | apply NF.v rfl | apply NF.lr rfl | apply NF.no rfl)
  refine x_seq (x_region rfl rfl (xr_run 1 rfl rfl (xr_defer (asked0 rfl) rfl rfl rfl rfl rk_nil (xr_end ?_))))
  apply x_nf
  repeat (first | exact NF.nil rfl | apply NF.v rfl | apply NF.lr rfl | apply NF.no rfl)
  refine x_seq (x_region rfl rfl (xr_defer (asked0 rfl) rfl rfl rfl rfl rk_nil (xr_end ?_)))
  apply x_nf
  repeat (first | exact NF.nil rfl | apply NF.v rfl | apply NF.lr rfl | apply NF.no rfl)
  refine x_seq (x_region rfl rfl (xr_run 1 rfl rfl (xr_boxH (asked0 rfl) rfl rfl rfl rfl rfl rfl rk_nil (xr_run 1 rfl rfl (xr_end ?_)))))
  apply x_nf
  repeat (first | exact NF.nil rfl | apply NF.v rfl | apply NF.lr rfl | apply NF.no rfl)
  have g3 : Grow hp (((hp.push ⟨59, ti59.zero⟩).push ⟨39, ti39.zero⟩).push ⟨86, (AV.agg ti86.zero).cells⟩) := ((Grow.push _ _).trans (.push _ _)).trans (.push _ _)
  have ge : (((hp.push ⟨59, ti59.zero⟩).push ⟨39, ti39.zero⟩).push ⟨86, (AV.agg ti86.zero).cells⟩).get (hp.n + 1) = some ⟨39, [.int .i64 0]⟩ := by
    rw [Hp.get_push, if_neg (by simp only [push_n]; omega), Hp.get_push, if_pos (by rw [push_n])]; rfl
  have gb : (((hp.push ⟨59, ti59.zero⟩).push ⟨39, ti39.zero⟩).push ⟨86, (AV.agg ti86.zero).cells⟩).get hp.n = some ⟨59, [.nils]⟩ := by
    rw [Hp.get_push, if_neg (by simp only [push_n]; omega), Hp.get_push, if_neg (by simp only [push_n]; omega), Hp.get_push, if_pos rfl]; rfl
  have gw : (((hp.push ⟨59, ti59.zero⟩).push ⟨39, ti39.zero⟩).push ⟨86, (AV.agg ti86.zero).cells⟩).get (hp.n + 2) = some ⟨86, [.nils]⟩ := by
    rw [Hp.get_push, if_pos (by simp only [push_n])]; rfl
  have gn : (((hp.push ⟨59, ti59.zero⟩).push ⟨39, ti39.zero⟩).push ⟨86, (AV.agg ti86.zero).cells⟩).n = hp.n + 3 := rfl
  generalize hh3 : (((hp.push ⟨59, ti59.zero⟩).push ⟨39, ti39.zero⟩).push ⟨86, (AV.agg ti86.zero).cells⟩) = hp3 at g3 ge gb gw gn ⊢
  obtain ⟨q, hp4, hc, hg4, h4⟩ := wRecord_ok (hp.n + 2) 0 r cs hp hp3 hr g3 (by omega) ⟨86, .nils, [], by omega, gw, .nil, Nat.le_refl _⟩ (by omega)
  have ge4 := (hg4.get (hp.n + 1) (by omega) (by omega)).trans ge
  have gb4 := (hg4.get hp.n (by omega) (by omega)).trans gb
  have hG4 : Grow hp hp4 := hg4.grow g3 (by omega)
  have hn4 : hp.n + 3 ≤ hp4.n := by have := hg4.n; omega
  rcases h4 with ⟨h0, rfl, hw4⟩ | ⟨h0, rfl⟩
  · obtain ⟨ty, x, es, q1, q2, q3, q4⟩ := hw4
    refine x_seq (x_region rfl rfl (xr_run 2 rfl rfl (xr_pure (asked0 rfl) (pLoadL rfl rfl rfl (part_all hlen) rfl) rfl rfl rfl ?_)))
    refine xr_call (asked0 rfl) rfl rfl rfl rfl hc rk_nil (xr_end ?_)
    apply x_nf
    repeat (first | exact NF.nil rfl | apply NF.v rfl | apply NF.lr rfl | apply NF.no rfl)
    refine x_seq (x_region rfl rfl (xr_run 3 rfl rfl (xr_pure (asked0 rfl) (pLoadV rfl rfl (rd_ptr q2 rfl) rfl) rfl rfl rfl ?_)))
    refine xr_storeH (asked0 rfl) rfl rfl rfl rfl rfl (q3.sl.st rfl) gb4 (q3.sl.wr rfl) rk_nil ?_
    have ge5 : (hp4.put hp.n ⟨59, [x]⟩).get (hp.n + 1) = some ⟨39, [.int .i64 0]⟩ := by rw [Hp.get_put, if_neg (by omega)]; exact ge4
    refine xr_storeH (asked0 rfl) rfl rfl rfl rfl rfl rfl ge5 rfl rk_nil (xr_end ?_)
    apply x_nf
    repeat (first | exact NF.nil rfl | apply NF.v rfl | apply NF.lr rfl | apply NF.no rfl)
    refine x_ret (ends_lv rfl ?_)
    obtain ⟨cm1, hp6, hd1, rfl, rfl⟩ := caught_none (hp.n + 1) ((hp4.put hp.n ⟨59, [x]⟩).put (hp.n + 1) ⟨39, [.int .i64 0]⟩)
    refine ⟨.ret, _, hd1, ?_⟩
    have ge6 : ((hp4.put hp.n ⟨59, [x]⟩).put (hp.n + 1) ⟨39, [.int .i64 0]⟩).get (hp.n + 1) = some ⟨39, [.int .i64 0]⟩ := by rw [Hp.get_put, if_pos rfl]
    have gb6 : ((hp4.put hp.n ⟨59, [x]⟩).put (hp.n + 1) ⟨39, [.int .i64 0]⟩).get hp.n = some ⟨59, [x]⟩ := by rw [Hp.get_put, if_neg (by omega), Hp.get_put, if_pos rfl]
    obtain ⟨cm2, hp7, hd2, rfl, h2⟩ := put1_ok (hp.n + 1) hp.n 0 _ 39 59 x .ret ge6 gb6
    rcases h2 with ⟨_, rfl⟩ | ⟨h, _⟩
    case inr => exact absurd rfl h
    refine ⟨.ret, _, hd2, ?_⟩
    refine ⟨_, resA_cell rfl rfl (rd_ptr gb6 rfl) rfl (resA_cell rfl rfl (rd_ptr ge6 rfl) rfl rfl), x, es, ?_, ?_, by omega, (hG4.put (Nat.le_refl _) _).put (by omega) _⟩
    · rw [h0]; rfl
    · have s1 : SlF (hp.n + 3) hp4 1 x es := q3.weak (by omega)
      exact ((s1.gb ((GB.refl hp.n hp4).put _) (by omega)).gb ((GB.refl (hp.n + 1) _).put _) (by omega)).weak (by omega)
  · refine x_seq (x_region rfl rfl (xr_run 2 rfl rfl (xr_pure (asked0 rfl) (pLoadL rfl rfl rfl (part_all hlen) rfl) rfl rfl rfl ?_)))
    refine xr_callP (asked0 rfl) rfl rfl rfl hc ?_
    refine ends_lv rfl ?_
    obtain ⟨cm1, hp6, hd1, rfl, rfl⟩ := caught_some (hp.n + 1) r.e' hp4 39 _ ge4
    refine ⟨.recd, _, hd1, ?_⟩
    have ge6 : (hp4.put (hp.n + 1) ⟨39, [.int .i64 r.e']⟩).get (hp.n + 1) = some ⟨39, [.int .i64 r.e']⟩ := by rw [Hp.get_put, if_pos rfl]
    have gb6 : (hp4.put (hp.n + 1) ⟨39, [.int .i64 r.e']⟩).get hp.n = some ⟨59, [.nils]⟩ := by rw [Hp.get_put, if_neg (by omega)]; exact gb4
    obtain ⟨cm2, hp7, hd2, rfl, h2⟩ := put1_ok (hp.n + 1) hp.n r.e' _ 39 59 .nils .ret ge6 gb6
    rcases h2 with ⟨h, _⟩ | ⟨_, rfl⟩
    case inl => exact absurd h h0
    refine ⟨.ret, _, hd2, ?_⟩
    have ge7 : ((hp4.put (hp.n + 1) ⟨39, [.int .i64 r.e']⟩).put hp.n ⟨59, [.nils]⟩).get (hp.n + 1) = some ⟨39, [.int .i64 r.e']⟩ := by rw [Hp.get_put, if_neg (by omega)]; exact ge6
    have gb7 : ((hp4.put (hp.n + 1) ⟨39, [.int .i64 r.e']⟩).put hp.n ⟨59, [.nils]⟩).get hp.n = some ⟨59, [.nils]⟩ := by rw [Hp.get_put, if_pos rfl]
    exact ⟨_, resA_cell rfl rfl (rd_ptr gb7 rfl) rfl (resA_cell rfl rfl (rd_ptr ge7 rfl) rfl rfl), .nils, [], rfl, .nil, by simp, (hG4.put (by omega) _).put (Nat.le_refl _) _⟩
end Go.Eng.Try

/- STABLE 8: the contracts of wire.PutRecord, and of folkmootref01. -/
set_option linter.unusedVariables false
set_option maxHeartbeats 4000000
namespace Go.Eng.Try
open Go Go.Proofs Go.Eng

theorem RcdAt.len {h : Hp} {r : Rcd} {cs : List AV} (hr : RcdAt h r cs) : cs.length = 15 := by
  match cs, hr with
  | [k, t, v, e1, e2, e3, e4, e5, e6, i, s1, s2, s3, s4, s5], _ => rfl
/-- wire.PutRecord. -/
theorem putRecord_ok (r : Rcd) (cs : List AV) (hp : Hp) (hr : RcdAt hp r cs) : Ans tis funs hints 30 [.agg cs] hp (fun q hp' => ∃ x es, q = .ret (.tup [x, .int .i64 r.e']) ∧ SlF hp.n hp' 1 x es ∧ es.length ≤ 300000 ∧ Grow hp hp') := by
  obtain ⟨q, hp', hc, x, es, rfl, h1, h2, h3⟩ := put_ok r cs hp hr
  refine ans_of rfl rfl rfl rfl ?_
  apply x_nf
  repeat (first | exact NF.nil rfl | apply NF.v rfl | apply NF.lr rfl | apply NF.no rfl)
  refine x_seq (x_region rfl rfl (xr_boxL (asked0 rfl) rfl rfl rfl rfl rfl rfl hr.one rk_nil (xr_run 2 rfl rfl (xr_end ?_))))
  apply x_nf
  repeat (first | exact NF.nil rfl | apply NF.v rfl | apply NF.lr rfl | apply NF.no rfl)
  refine x_seq (x_region rfl rfl (xr_pure (asked0 rfl) (pLoadL rfl rfl rfl (part_all hr.len) rfl) rfl rfl rfl ?_))
  refine xr_call (asked0 rfl) rfl rfl rfl rfl hc rk_nil (xr_run 4 rfl rfl (xr_end ?_))
  apply x_nf
  repeat (first | exact NF.nil rfl | apply NF.v rfl | apply NF.lr rfl | apply NF.no rfl)
  exact x_ret (ends_ret rfl rfl ⟨x, es, rfl, h1, h2, h3⟩)

/-- folkmootref01.Low. -/
theorem low_ok (v n : Int) (hp : Hp) (h0 : 0 ≤ n) (h8 : n ≤ 8) : Ans tis funs hints 71 [.int .u64 v, .int .i64 n] hp (fun q hp' => ∃ x es, q = .ret x ∧ SlF hp.n hp' 1 x es ∧ es.length = n.toNat ∧ Grow hp hp') := by
  refine ans_of rfl rfl rfl rfl ?_
  apply x_nf
  repeat (first | exact NF.nil rfl | apply NF.v rfl | apply NF.lr rfl | apply NF.no rfl)
  refine x_seq (x_region rfl rfl (xr_run 1 rfl rfl (xr_end ?_)))
  apply x_nf
  repeat (first | exact NF.nil rfl | apply NF.v rfl | apply NF.lr rfl | apply NF.no rfl)
  refine x_seq (x_region rfl rfl (xr_run 1 rfl rfl (xr_end ?_)))
  apply x_nf
  repeat (first | exact NF.nil rfl | apply NF.v rfl | apply NF.lr rfl | apply NF.no rfl)
  refine x_seq (x_seq (x_region rfl rfl (xr_run 1 rfl rfl (xr_end ?_))))
  apply x_nf
  repeat (first | exact NF.nil rfl | apply NF.v rfl | apply NF.lr rfl | apply NF.no rfl)
  refine x_block ?_
  refine x_loopE (α := Int × Int × AV × List (List AV)) (fun a => [(0, .v (.int .u64 a.2.1)), (1, .v (.int .i64 n)), (5, .v a.2.2.1), (6, .v (.int .i64 a.1))]) (fun _ => [])
    (fun a h df => 0 ≤ a.1 ∧ a.1 ≤ n ∧ df = [] ∧ Grow hp h ∧ SlF hp.n h 1 a.2.2.1 a.2.2.2 ∧ a.2.2.2.length = a.1.toNat) (fun a => (n - a.1).toNat) (0, v, .nils, []) (by repeat (first | exact Sub.nil | apply Sub.cons rfl)) SubC.nil
    ⟨by simp, by simpa using h0, rfl, .refl _, .nil, rfl⟩ ?_
  rintro ⟨i, u, x, es⟩ h df ⟨hi0, hin, rfl, hg, hs, hl⟩
  simp only at hi0 hin hs hl
  refine x_seq (x_seq (x_region rfl rfl (xr_run 3 rfl rfl (xr_end ?_))))
  apply x_nf
  repeat (first | exact NF.nil rfl | apply NF.v rfl | apply NF.lr rfl | apply NF.no rfl)
  refine x_cond rfl (fun hlt => ?_) (fun hlt => ?_)
  · have hlt := of_decide_eq_true hlt
    refine x_skip (x_seq (x_block (x_seq (x_region rfl rfl (xr_run 4 rfl rfl ?_)))))
    refine xr_buildSlice (asked0 rfl) rfl rfl rfl rfl rfl rfl rfl rfl rk_nil ?_
    obtain ⟨y, h2, a1, a2, a3⟩ := (hs.grow (Grow.push h ⟨5, [.int .u8 (fwrap .u8 (u.tmod 256))]⟩)).append (e := 5) (bytes := 1) (hg.trans (.push _ _)) [[.int .u8 (fwrap .u8 (u.tmod 256))]] (by simp) (by rw [hl]; simp; omega) (by decide)
    refine xr_append (asked0 rfl) rfl rfl rfl rfl rfl rfl rfl rfl ?_ a1 rk_nil (xr_run 1 rfl rfl (xr_end ?_))
    · simp only [RS.flat, Hp.get_push, if_true, beq_self, cond_true]
      rfl
    apply x_nf
    repeat (first | exact NF.nil rfl | apply NF.v rfl | apply NF.lr rfl | apply NF.no rfl)
    refine x_region rfl rfl (xr_run 3 rfl rfl (xr_end ?_))
    apply x_nf
    repeat (first | exact NF.nil rfl | apply NF.v rfl | apply NF.lr rfl | apply NF.no rfl)
    refine x_region rfl rfl (xr_run 2 rfl rfl ?_)
    rw [fwrap_i64 (by omega) (by omega)]
    refine xr_run 1 rfl rfl (xr_end ?_)
    refine ⟨(i + 1, fwrap .u64 (u.tdiv 256), y, es ++ [[.int .u8 (fwrap .u8 (u.tmod 256))]]), by show (n - (i + 1)).toNat < (n - i).toNat; omega, ?_, SubC.nil, ?_⟩
    · repeat (first | exact Sub.nil | apply Sub.cons rfl)
    · exact ⟨by show 0 ≤ i + 1; omega, by show i + 1 ≤ n; omega, rfl, a3, a2, by show (es ++ _).length = (i + 1).toNat; rw [List.length_append, hl]; simp; omega⟩
  · have hlt := of_decide_eq_false hlt
    refine x_exit (x_seq (x_region rfl rfl (xr_run 2 rfl rfl (xr_end ?_))))
    apply x_nf
    repeat (first | exact NF.nil rfl | apply NF.v rfl | apply NF.lr rfl | apply NF.no rfl)
    exact x_ret (ends_ret rfl rfl ⟨x, es, rfl, hs, by omega, hg⟩)

/-- An answer of folkmootref01: bytes, and whether it could be. -/
def Put2 (hp : Hp) (n : Nat) (b : Bool) (r : Res) (hp' : Hp) : Prop := ∃ x es, r = .ret (.tup [x, .bool b]) ∧ SlF hp.n hp' 1 x es ∧ es.length ≤ n ∧ Grow hp hp'
theorem number1_ok (n : Int) (hp : Hp) : Ans tis funs hints 67 [.int .i64 n] hp (Put2 hp 4 (decide (0 ≤ n ∧ n ≤ 1000000000))) := by
  refine ans_of rfl rfl rfl rfl ?_
  apply x_nf
  repeat (first | exact NF.nil rfl | apply NF.v rfl | apply NF.lr rfl | apply NF.no rfl)
  refine x_seq (x_region rfl rfl (xr_run 2 rfl rfl (xr_end ?_)))
  apply x_nf
  repeat (first | exact NF.nil rfl | apply NF.v rfl | apply NF.lr rfl | apply NF.no rfl)
  by_cases hn : 0 ≤ n ∧ n ≤ 1000000000
  · rw [decide_eq_true hn]
    refine x_seq (x_seq (x_region rfl rfl (xr_run 3 rfl rfl ?_)))
    rw [decide_eq_false (show ¬ n < 0 by omega)]
    refine xr_run 2 rfl rfl ?_
    rw [decide_eq_false (show ¬ n > 1000000000 by omega)]
    refine xr_run 1 rfl rfl (xr_end ?_)
    apply x_nf
    repeat (first | exact NF.nil rfl | apply NF.v rfl | apply NF.lr rfl | apply NF.no rfl)
    refine x_cond rfl (fun hc => by cases hc) (fun hc => ?_)
    refine x_skip (x_seq (x_region rfl rfl (xr_run 2 rfl rfl ?_)))
    obtain ⟨r, hp', hc, x, es', rfl, h1, h2, h3⟩ := low_ok (fwrap .u64 n) 4 hp (by decide) (by decide)
    refine xr_call (asked0 rfl) rfl rfl rfl rfl hc rk_nil (xr_run 2 rfl rfl (xr_end ?_))
    apply x_nf
    repeat (first | exact NF.nil rfl | apply NF.v rfl | apply NF.lr rfl | apply NF.no rfl)
    refine x_ret (ends_ret rfl rfl ⟨x, es', rfl, h1, by rw [h2]; exact Nat.le_refl _, h3⟩)
  · rw [decide_eq_false hn]
    refine x_seq (x_cut [(9, .v (.bool true))] [] hp [] ?_ ?_)
    · by_cases h0 : n < 0
      · refine x_region rfl rfl (xr_run 3 rfl rfl ?_)
        rw [decide_eq_true h0]
        refine xr_run 3 rfl rfl (xr_end ⟨?_, SubC.nil, rfl, rfl⟩)
        repeat (first | exact Sub.nil | apply Sub.cons rfl)
      · refine x_region rfl rfl (xr_run 3 rfl rfl ?_)
        rw [decide_eq_false h0]
        refine xr_run 2 rfl rfl ?_
        rw [decide_eq_true (show n > 1000000000 by omega)]
        refine xr_run 1 rfl rfl (xr_end ⟨?_, SubC.nil, rfl, rfl⟩)
        repeat (first | exact Sub.nil | apply Sub.cons rfl)
    · refine x_cond rfl (fun hc => ?_) (fun hc => by cases hc)
      refine x_seq (x_region rfl rfl (xr_run 2 rfl rfl (xr_end ?_)))
      apply x_nf
      repeat (first | exact NF.nil rfl | apply NF.v rfl | apply NF.lr rfl | apply NF.no rfl)
      exact x_ret (ends_ret rfl rfl ⟨.nils, [], rfl, .nil, by simp, .refl _⟩)
theorem text1_ok (l : List UInt8) (hp : Hp) : Ans tis funs hints 69 [.str l] hp (Put2 hp 65540 (decide (l.length ≤ 65536))) := by
  refine ans_of rfl rfl rfl rfl ?_
  apply x_nf
  repeat (first | exact NF.nil rfl | apply NF.v rfl | apply NF.lr rfl | apply NF.no rfl)
  refine x_seq (x_region rfl rfl (xr_run 2 rfl rfl (xr_end ?_)))
  apply x_nf
  repeat (first | exact NF.nil rfl | apply NF.v rfl | apply NF.lr rfl | apply NF.no rfl)
  refine x_seq (x_seq (x_region rfl rfl (xr_run 3 rfl rfl (xr_end ?_))))
  apply x_nf
  repeat (first | exact NF.nil rfl | apply NF.v rfl | apply NF.lr rfl | apply NF.no rfl)
  refine x_cond rfl (fun hc => ?_) (fun hc => ?_)
  · have hc := of_decide_eq_true hc
    rw [decide_eq_false (show ¬ l.length ≤ 65536 by omega)]
    refine x_seq (x_region rfl rfl (xr_run 2 rfl rfl (xr_end ?_)))
    apply x_nf
    repeat (first | exact NF.nil rfl | apply NF.v rfl | apply NF.lr rfl | apply NF.no rfl)
    exact x_ret (ends_ret rfl rfl ⟨.nils, [], rfl, .nil, by simp, .refl _⟩)
  · have hc := of_decide_eq_false hc
    rw [decide_eq_true (show l.length ≤ 65536 by omega)]
    refine x_skip (x_seq (x_region rfl rfl (xr_run 3 rfl rfl ?_)))
    obtain ⟨r, hp', hc2, x, es', rfl, h1, h2, h3⟩ := low_ok (fwrap .u64 (l.length : Nat)) 4 hp (by decide) (by decide)
    refine xr_call (asked0 rfl) rfl rfl rfl rfl hc2 rk_nil (xr_run 1 rfl rfl (xr_end ?_))
    apply x_nf
    repeat (first | exact NF.nil rfl | apply NF.v rfl | apply NF.lr rfl | apply NF.no rfl)
    obtain ⟨v, hp2, a1, a2, a3⟩ := h1.append (e := 5) (bytes := 1) h3 (l.map fun b => [AV.int .u8 (b.toNat : Int)]) (by simp) (by rw [h2, List.length_map]; have := hc; simp; omega) (by decide)
    rw [List.length_map] at a1
    refine x_seq (x_region rfl rfl (xr_run 2 rfl rfl (xr_append (asked0 rfl) rfl rfl rfl rfl rfl rfl rfl rfl (flat_str hp' l) a1 rk_nil (xr_run 1 rfl rfl (xr_end ?_)))))
    apply x_nf
    repeat (first | exact NF.nil rfl | apply NF.v rfl | apply NF.lr rfl | apply NF.no rfl)
    refine x_seq (x_region rfl rfl (xr_run 3 rfl rfl (xr_end ?_)))
    apply x_nf
    repeat (first | exact NF.nil rfl | apply NF.v rfl | apply NF.lr rfl | apply NF.no rfl)
    refine x_ret (ends_ret rfl rfl ⟨v, _, rfl, a2, ?_, a3⟩)
    rw [List.length_append, h2, List.length_map]
    simp
    omega
end Go.Eng.Try

/- STABLE 9: the contracts of folkmootref03's number and text. Written by a program of mine (gen_lay.py). -/
set_option linter.unusedVariables false
set_option maxHeartbeats 4000000
namespace Go.Eng.Try
open Go Go.Proofs Go.Eng

/-- A lay with at most so many bytes, and its error. -/
def Ly (w : Nat) (hp : Hp) (n : Nat) (e : Int) : Prop := ∃ ty x es, w < hp.n ∧ hp.get w = some ⟨ty, [x, .int .i64 e]⟩ ∧ SlF (w + 1) hp 1 x es ∧ es.length ≤ n
theorem Ly.mono {w : Nat} {hp : Hp} {n m : Nat} {e : Int} (h : Ly w hp n e) (hm : n ≤ m) : Ly w hp m e := by
  obtain ⟨ty, x, es, q1, q2, q3, q4⟩ := h
  exact ⟨ty, x, es, q1, q2, q3, by omega⟩
def LPost (w : Nat) (hp : Hp) (n : Nat) (e : Int) (r : Res) (hp' : Hp) : Prop := r = .ret (.tup []) ∧ GL w hp hp' ∧ Ly w hp' n e

theorem lNumber_ok (w m : Nat) (n : Int) (e : Int) (hp : Hp) (hw : Ly w hp m e) (hm : m ≤ 4294967296) : Ans tis funs hints 61 [.ptr w 0, .int .i64 n] hp (LPost w hp (m + 4) (fe [e, numE n])) := by
  obtain ⟨ty, x, es, hwn, hg, hs, hl⟩ := hw
  obtain ⟨r, hp', hc, x', es', rfl, h1, h2, h3⟩ := number1_ok n hp
  have hg' : hp'.get w = some ⟨ty, [x, .int .i64 e]⟩ := (h3.get w hwn).trans hg
  have hwn' : w < hp'.n := Nat.lt_of_lt_of_le hwn h3.n
  refine ans_of rfl rfl rfl rfl ?_
  apply x_nf
  repeat (first | exact NF.nil rfl | apply NF.v rfl | apply NF.lr rfl | apply NF.no rfl)
  refine x_seq (x_region rfl rfl (xr_run 1 rfl rfl (xr_call (asked0 rfl) rfl rfl rfl rfl hc rk_nil (xr_run 5 rfl rfl (xr_end ?_)))))
  apply x_nf
  repeat (first | exact NF.nil rfl | apply NF.v rfl | apply NF.lr rfl | apply NF.no rfl)
  -- what is laid behind it, whatever the error
  have tail : ∀ (e2 : Int) (h : Hp), h = hp'.put w ⟨ty, [x, .int .i64 e2]⟩ ∨ (h = hp' ∧ e2 = e) → e2 = fe [e, numE n] → X tis (evalL tis funs hints) (hints 61) Proofs.Try.f61.ntmps (match bodyOf Proofs.Try.f61 with | .seq _ (.seq _ b) => b | c => c) [(0, .v (.ptr w 0)), (4, .v x')] [] h [] (Ends tis funs hints Proofs.Try.f61.ntmps Proofs.Try.f61 (LPost w hp (m + 4) (fe [e, numE n]))) := by
    intro e2 h hh he2
    have hgh : h.get w = some ⟨ty, [x, .int .i64 e2]⟩ := by
      rcases hh with rfl | ⟨rfl, rfl⟩
      · rw [Hp.get_put, if_pos rfl]
      · exact hg'
    have hn : h.n = hp'.n := by rcases hh with rfl | ⟨rfl, rfl⟩ <;> rfl
    have gh : GB w hp' h := by
      rcases hh with rfl | ⟨rfl, rfl⟩
      · exact (GB.refl w hp').put _
      · exact .refl _ _
    have sx : SlF (w + 1) h 1 x es := (hs.grow h3).gb gh (by omega)
    have sb : SlF hp.n h 1 x' es' := h1.gb gh (by omega)
    obtain ⟨v, h2', a1, a2, a3⟩ := sx.app (e := 5) (bytes := 1) (by omega) es' sb.each (by omega) (by decide)
    have hg2 : h2'.get w = some ⟨ty, [x, .int .i64 e2]⟩ := (a3.get w (by omega)).trans hgh
    refine x_region rfl rfl (xr_run 4 rfl rfl (xr_pure (asked0 rfl) (pLoadV rfl rfl (rd_ptr hgh rfl) rfl) rfl rfl rfl (xr_run 1 rfl rfl ?_)))
    refine xr_append (asked0 rfl) rfl rfl rfl rfl rfl rfl rfl rfl sb.sl.flat a1 rk_nil (xr_run 2 rfl rfl ?_)
    refine xr_storeH (asked0 rfl) rfl rfl rfl rfl rfl (a2.sl.st rfl) hg2 (a2.sl.wr rfl) rk_nil (xr_end ?_)
    refine ends_ret rfl rfl ⟨rfl, ?_, ty, v, es ++ es', ?_, ?_, ?_, ?_⟩
    · have g1 : GL w hp hp' := h3.gl (by omega)
      have g2 : GL w hp' h := ⟨by omega, fun b hb => gh.get b (by omega) (by omega)⟩
      exact ((g1.trans g2).trans (a3.weak (by omega))).put (Nat.le_refl _) _
    · show w < h2'.n
      have := a3.n
      omega
    · rw [Hp.get_put, if_pos rfl, ← he2]; rfl
    · exact a2.gb ((GB.refl w h2').put _) (by omega)
    · rw [List.length_append]; omega
  by_cases hn : 0 ≤ n ∧ n ≤ 1000000000
  · rw [decide_eq_true hn]
    have he : numE n = 0 := by unfold numE; rw [if_pos hn]
    refine x_cut [(0, .v (.ptr w 0)), (4, .v x')] [] hp' [] ?_ (tail e hp' (.inr ⟨rfl, rfl⟩) (by simp only [fe, he]; by_cases h0 : e = 0 <;> simp [h0]))
    refine x_seq (x_region rfl rfl (xr_run 9 rfl rfl (xr_end ?_)))
    apply x_nf
    repeat (first | exact NF.nil rfl | apply NF.v rfl | apply NF.lr rfl | apply NF.no rfl)
    refine x_cond rfl (fun hc => by cases hc) (fun hc => x_skip ⟨?_, SubC.nil, rfl, rfl⟩)
    repeat (first | exact Sub.nil | apply Sub.cons rfl)
  · rw [decide_eq_false hn]
    have he : numE n = 1 := by unfold numE; rw [if_neg hn]
    by_cases h0 : e = 0
    · refine x_cut [(0, .v (.ptr w 0)), (4, .v x')] [] (hp'.put w ⟨ty, [x, .int .i64 1]⟩) [] ?_ (tail 1 _ (.inl rfl) (by simp only [fe, he, h0]; simp))
      refine x_seq (x_region rfl rfl (xr_run 6 rfl rfl (xr_pure (askedG rfl rfl rfl rfl rfl) (pLoadV rfl rfl (rd_ptr hg' rfl) rfl) rfl rfl rfl (xr_run 2 rfl rfl (xr_end ?_)))))
      apply x_nf
      repeat (first | exact NF.nil rfl | apply NF.v rfl | apply NF.lr rfl | apply NF.no rfl)
      refine x_cond rfl (fun hc => ?_) (fun hc => absurd h0 (by simpa using hc))
      refine x_region rfl rfl (xr_run 3 rfl rfl ?_)
      refine xr_storeH (asked0 rfl) rfl rfl rfl rfl rfl rfl hg' rfl rk_nil (xr_end ⟨?_, SubC.nil, rfl, rfl⟩)
      repeat (first | exact Sub.nil | apply Sub.cons rfl)
    · refine x_cut [(0, .v (.ptr w 0)), (4, .v x')] [] hp' [] ?_ (tail e hp' (.inr ⟨rfl, rfl⟩) (by simp only [fe, if_neg h0]))
      refine x_seq (x_region rfl rfl (xr_run 6 rfl rfl (xr_pure (askedG rfl rfl rfl rfl rfl) (pLoadV rfl rfl (rd_ptr hg' rfl) rfl) rfl rfl rfl (xr_run 2 rfl rfl (xr_end ?_)))))
      apply x_nf
      repeat (first | exact NF.nil rfl | apply NF.v rfl | apply NF.lr rfl | apply NF.no rfl)
      refine x_cond rfl (fun hc => absurd (by simpa using hc) h0) (fun hc => x_skip ⟨?_, SubC.nil, rfl, rfl⟩)
      repeat (first | exact Sub.nil | apply Sub.cons rfl)


theorem lText_ok (w m : Nat) (l : List UInt8) (e : Int) (hp : Hp) (hw : Ly w hp m e) (hm : m ≤ 4294967296) : Ans tis funs hints 63 [.ptr w 0, .str l] hp (LPost w hp (m + 65540) (fe [e, textE l])) := by
  obtain ⟨ty, x, es, hwn, hg, hs, hl⟩ := hw
  obtain ⟨r, hp', hc, x', es', rfl, h1, h2, h3⟩ := text1_ok l hp
  have hg' : hp'.get w = some ⟨ty, [x, .int .i64 e]⟩ := (h3.get w hwn).trans hg
  have hwn' : w < hp'.n := Nat.lt_of_lt_of_le hwn h3.n
  refine ans_of rfl rfl rfl rfl ?_
  apply x_nf
  repeat (first | exact NF.nil rfl | apply NF.v rfl | apply NF.lr rfl | apply NF.no rfl)
  refine x_seq (x_region rfl rfl (xr_run 1 rfl rfl (xr_call (asked0 rfl) rfl rfl rfl rfl hc rk_nil (xr_run 5 rfl rfl (xr_end ?_)))))
  apply x_nf
  repeat (first | exact NF.nil rfl | apply NF.v rfl | apply NF.lr rfl | apply NF.no rfl)
  -- what is laid behind it, whatever the error
  have tail : ∀ (e2 : Int) (h : Hp), h = hp'.put w ⟨ty, [x, .int .i64 e2]⟩ ∨ (h = hp' ∧ e2 = e) → e2 = fe [e, textE l] → X tis (evalL tis funs hints) (hints 63) Proofs.Try.f63.ntmps (match bodyOf Proofs.Try.f63 with | .seq _ (.seq _ b) => b | c => c) [(0, .v (.ptr w 0)), (4, .v x')] [] h [] (Ends tis funs hints Proofs.Try.f63.ntmps Proofs.Try.f63 (LPost w hp (m + 65540) (fe [e, textE l]))) := by
    intro e2 h hh he2
    have hgh : h.get w = some ⟨ty, [x, .int .i64 e2]⟩ := by
      rcases hh with rfl | ⟨rfl, rfl⟩
      · rw [Hp.get_put, if_pos rfl]
      · exact hg'
    have hn : h.n = hp'.n := by rcases hh with rfl | ⟨rfl, rfl⟩ <;> rfl
    have gh : GB w hp' h := by
      rcases hh with rfl | ⟨rfl, rfl⟩
      · exact (GB.refl w hp').put _
      · exact .refl _ _
    have sx : SlF (w + 1) h 1 x es := (hs.grow h3).gb gh (by omega)
    have sb : SlF hp.n h 1 x' es' := h1.gb gh (by omega)
    obtain ⟨v, h2', a1, a2, a3⟩ := sx.app (e := 5) (bytes := 1) (by omega) es' sb.each (by omega) (by decide)
    have hg2 : h2'.get w = some ⟨ty, [x, .int .i64 e2]⟩ := (a3.get w (by omega)).trans hgh
    refine x_region rfl rfl (xr_run 4 rfl rfl (xr_pure (asked0 rfl) (pLoadV rfl rfl (rd_ptr hgh rfl) rfl) rfl rfl rfl (xr_run 1 rfl rfl ?_)))
    refine xr_append (asked0 rfl) rfl rfl rfl rfl rfl rfl rfl rfl sb.sl.flat a1 rk_nil (xr_run 2 rfl rfl ?_)
    refine xr_storeH (asked0 rfl) rfl rfl rfl rfl rfl (a2.sl.st rfl) hg2 (a2.sl.wr rfl) rk_nil (xr_end ?_)
    refine ends_ret rfl rfl ⟨rfl, ?_, ty, v, es ++ es', ?_, ?_, ?_, ?_⟩
    · have g1 : GL w hp hp' := h3.gl (by omega)
      have g2 : GL w hp' h := ⟨by omega, fun b hb => gh.get b (by omega) (by omega)⟩
      exact ((g1.trans g2).trans (a3.weak (by omega))).put (Nat.le_refl _) _
    · show w < h2'.n
      have := a3.n
      omega
    · rw [Hp.get_put, if_pos rfl, ← he2]; rfl
    · exact a2.gb ((GB.refl w h2').put _) (by omega)
    · rw [List.length_append]; omega
  by_cases hn : l.length ≤ 65536
  · rw [decide_eq_true hn]
    have he : textE l = 0 := by unfold textE; rw [if_pos hn]
    refine x_cut [(0, .v (.ptr w 0)), (4, .v x')] [] hp' [] ?_ (tail e hp' (.inr ⟨rfl, rfl⟩) (by simp only [fe, he]; by_cases h0 : e = 0 <;> simp [h0]))
    refine x_seq (x_region rfl rfl (xr_run 9 rfl rfl (xr_end ?_)))
    apply x_nf
    repeat (first | exact NF.nil rfl | apply NF.v rfl | apply NF.lr rfl | apply NF.no rfl)
    refine x_cond rfl (fun hc => by cases hc) (fun hc => x_skip ⟨?_, SubC.nil, rfl, rfl⟩)
    repeat (first | exact Sub.nil | apply Sub.cons rfl)
  · rw [decide_eq_false hn]
    have he : textE l = 2 := by unfold textE; rw [if_neg hn]
    by_cases h0 : e = 0
    · refine x_cut [(0, .v (.ptr w 0)), (4, .v x')] [] (hp'.put w ⟨ty, [x, .int .i64 2]⟩) [] ?_ (tail 2 _ (.inl rfl) (by simp only [fe, he, h0]; simp))
      refine x_seq (x_region rfl rfl (xr_run 6 rfl rfl (xr_pure (askedG rfl rfl rfl rfl rfl) (pLoadV rfl rfl (rd_ptr hg' rfl) rfl) rfl rfl rfl (xr_run 2 rfl rfl (xr_end ?_)))))
      apply x_nf
      repeat (first | exact NF.nil rfl | apply NF.v rfl | apply NF.lr rfl | apply NF.no rfl)
      refine x_cond rfl (fun hc => ?_) (fun hc => absurd h0 (by simpa using hc))
      refine x_region rfl rfl (xr_run 3 rfl rfl ?_)
      refine xr_storeH (asked0 rfl) rfl rfl rfl rfl rfl rfl hg' rfl rk_nil (xr_end ⟨?_, SubC.nil, rfl, rfl⟩)
      repeat (first | exact Sub.nil | apply Sub.cons rfl)
    · refine x_cut [(0, .v (.ptr w 0)), (4, .v x')] [] hp' [] ?_ (tail e hp' (.inr ⟨rfl, rfl⟩) (by simp only [fe, if_neg h0]))
      refine x_seq (x_region rfl rfl (xr_run 6 rfl rfl (xr_pure (askedG rfl rfl rfl rfl rfl) (pLoadV rfl rfl (rd_ptr hg' rfl) rfl) rfl rfl rfl (xr_run 2 rfl rfl (xr_end ?_)))))
      apply x_nf
      repeat (first | exact NF.nil rfl | apply NF.v rfl | apply NF.lr rfl | apply NF.no rfl)
      refine x_cond rfl (fun hc => absurd (by simpa using hc) h0) (fun hc => x_skip ⟨?_, SubC.nil, rfl, rfl⟩)
      repeat (first | exact Sub.nil | apply Sub.cons rfl)

end Go.Eng.Try

/- STABLE 10: the contracts of folkmootref03's lists and configurations. -/
set_option linter.unusedVariables false
set_option maxHeartbeats 4000000
namespace Go.Eng.Try
open Go Go.Proofs Go.Eng

theorem lMany_ok (w m n : Nat) (e : Int) (hp : Hp) (hw : Ly w hp m e) (hm : m ≤ 4294967296) (hn : n ≤ 9223372036854775807) : Ans tis funs hints 72 [.ptr w 0, .int .i64 (n : Int)] hp (fun r hp' => GL w hp hp' ∧
    ((e ≠ 0 ∧ r = .ret (.bool false) ∧ Ly w hp' m e) ∨ (e = 0 ∧ 4096 < n ∧ r = .ret (.bool false) ∧ Ly w hp' m 2) ∨ (e = 0 ∧ n ≤ 4096 ∧ r = .ret (.bool true) ∧ Ly w hp' (m + 4) 0))) := by
  have hw0 := hw
  obtain ⟨ty, x, es, hwn, hg, hs, hl⟩ := hw
  refine ans_of rfl rfl rfl rfl ?_
  apply x_nf
  repeat (first | exact NF.nil rfl | apply NF.v rfl | apply NF.lr rfl | apply NF.no rfl)
  refine x_seq (x_region rfl rfl (xr_run 1 rfl rfl (xr_end ?_)))
  apply x_nf
  repeat (first | exact NF.nil rfl | apply NF.v rfl | apply NF.lr rfl | apply NF.no rfl)
  refine x_seq (x_seq (x_region rfl rfl (xr_run 3 rfl rfl (xr_pure (asked0 rfl) (pLoadV rfl rfl (rd_ptr hg rfl) rfl) rfl rfl rfl (xr_run 1 rfl rfl (xr_end ?_))))))
  apply x_nf
  repeat (first | exact NF.nil rfl | apply NF.v rfl | apply NF.lr rfl | apply NF.no rfl)
  refine x_cond rfl (fun hc => ?_) (fun hc => ?_)
  · have he : e ≠ 0 := by simpa using hc
    refine x_seq (x_region rfl rfl (xr_run 1 rfl rfl (xr_end ?_)))
    apply x_nf
    repeat (first | exact NF.nil rfl | apply NF.v rfl | apply NF.lr rfl | apply NF.no rfl)
    exact x_ret (ends_ret rfl rfl ⟨.refl _ _, .inl ⟨he, rfl, hw0⟩⟩)
  · have he : e = 0 := by simpa using hc
    refine x_skip (x_seq (x_seq (x_region rfl rfl (xr_run 2 rfl rfl (xr_end ?_)))))
    apply x_nf
    repeat (first | exact NF.nil rfl | apply NF.v rfl | apply NF.lr rfl | apply NF.no rfl)
    refine x_cond rfl (fun hc => ?_) (fun hc => ?_)
    · have hc := of_decide_eq_true hc
      refine x_seq (x_region rfl rfl (xr_run 3 rfl rfl ?_))
      refine xr_storeH (asked0 rfl) rfl rfl rfl rfl rfl rfl hg rfl rk_nil (xr_end ?_)
      apply x_nf
      repeat (first | exact NF.nil rfl | apply NF.v rfl | apply NF.lr rfl | apply NF.no rfl)
      refine x_seq (x_region rfl rfl (xr_run 1 rfl rfl (xr_end ?_)))
      apply x_nf
      repeat (first | exact NF.nil rfl | apply NF.v rfl | apply NF.lr rfl | apply NF.no rfl)
      refine x_ret (ends_ret rfl rfl ⟨(GL.refl w hp).put (Nat.le_refl _) _, .inr (.inl ⟨he, by omega, rfl, ty, x, es, hwn, ?_, hs.gb ((GB.refl w hp).put _) (by omega), hl⟩)⟩)
      rw [Hp.get_put, if_pos rfl]; rfl
    · have hc := of_decide_eq_false hc
      obtain ⟨r, hp1, hc1, rfl, hg1, hl1⟩ := lNumber_ok w m (n : Int) e hp hw0 hm
      have hn0 : numE (n : Int) = 0 := by unfold numE; rw [if_pos (by omega)]
      have hfe : fe [e, numE (n : Int)] = 0 := by simp [fe, he, hn0]
      rw [hfe] at hl1
      refine x_skip (x_seq (x_region rfl rfl (xr_run 2 rfl rfl (xr_call (asked0 rfl) rfl rfl rfl rfl hc1 rk_nil (xr_end ?_)))))
      apply x_nf
      repeat (first | exact NF.nil rfl | apply NF.v rfl | apply NF.lr rfl | apply NF.no rfl)
      refine x_seq (x_region rfl rfl (xr_run 1 rfl rfl (xr_end ?_)))
      apply x_nf
      repeat (first | exact NF.nil rfl | apply NF.v rfl | apply NF.lr rfl | apply NF.no rfl)
      exact x_ret (ends_ret rfl rfl ⟨hg1, .inr (.inr ⟨he, by omega, rfl, hl1⟩)⟩)

theorem lSet_ok (w m : Nat) (e : Int) (ns : List Int) (a : AV) (hp0 hp : Hp) (ha : Sl hp0 1 a (ints ns)) (hn : ns.length ≤ 9223372036854775807) (g : Grow hp0 hp) (hw0 : hp0.n ≤ w) (hw : Ly w hp m e) (hm : m ≤ 2147483648) :
    Ans tis funs hints 68 [.ptr w 0, a] hp (LPost w hp (m + 16388) (fe [e, setE ns])) := by
  have hlen : (ints ns).length = ns.length := by simp [ints]
  have ha1 := ha.len (T := tis) (t := 23) rfl rfl
  rw [hlen] at ha1
  obtain ⟨r, hp1, hc1, hg1, h1⟩ := lMany_ok w m ns.length e hp hw (by omega) hn
  refine ans_of rfl rfl rfl rfl ?_
  apply x_nf
  repeat (first | exact NF.nil rfl | apply NF.v rfl | apply NF.lr rfl | apply NF.no rfl)
  refine x_seq (x_seq (x_region rfl rfl (xr_run 2 rfl rfl (xr_pure (asked0 rfl) (pLen rfl rfl rfl ha1) rfl rfl rfl ?_))))
  rcases h1 with ⟨he, rfl, hl1⟩ | ⟨he, hbig, rfl, hl1⟩ | ⟨he, hsm, rfl, hl1⟩
  · refine xr_call (asked0 rfl) rfl rfl rfl rfl hc1 rk_nil (xr_run 1 rfl rfl (xr_end ?_))
    apply x_nf
    repeat (first | exact NF.nil rfl | apply NF.v rfl | apply NF.lr rfl | apply NF.no rfl)
    refine x_cond rfl (fun hc => ?_) (fun hc => by cases hc)
    have hfe : fe [e, setE ns] = e := by simp [fe, he]
    rw [hfe]
    exact x_ret (ends_ret rfl rfl ⟨rfl, hg1, hl1.mono (by omega)⟩)
  · refine xr_call (asked0 rfl) rfl rfl rfl rfl hc1 rk_nil (xr_run 1 rfl rfl (xr_end ?_))
    apply x_nf
    repeat (first | exact NF.nil rfl | apply NF.v rfl | apply NF.lr rfl | apply NF.no rfl)
    refine x_cond rfl (fun hc => ?_) (fun hc => by cases hc)
    have hfe : fe [e, setE ns] = 2 := by unfold setE; rw [if_neg (by omega)]; simp [fe, he]
    rw [hfe]
    exact x_ret (ends_ret rfl rfl ⟨rfl, hg1, hl1.mono (by omega)⟩)
  · refine xr_call (asked0 rfl) rfl rfl rfl rfl hc1 rk_nil (xr_run 1 rfl rfl (xr_end ?_))
    apply x_nf
    repeat (first | exact NF.nil rfl | apply NF.v rfl | apply NF.lr rfl | apply NF.no rfl)
    refine x_cond rfl (fun hc => by cases hc) (fun hc => ?_)
    have hfe : fe [e, setE ns] = fe (ns.map numE) := by
      unfold setE
      rw [if_pos hsm]
      simp only [fe, he, if_true]
      by_cases h : fe (ns.map numE) = 0 <;> simp [h]
    rw [hfe]
    refine x_skip (x_seq (x_region rfl rfl (xr_run 1 rfl rfl (xr_end ?_))))
    apply x_nf
    repeat (first | exact NF.nil rfl | apply NF.v rfl | apply NF.lr rfl | apply NF.no rfl)
    refine x_block ?_
    refine x_loopE (α := Int) (fun i => [(0, .v (.ptr w 0)), (1, .v a), (4, .v (.int .i64 i))]) (fun _ => [])
      (fun i h df => 0 ≤ i ∧ i ≤ ns.length ∧ df = [] ∧ GL w hp h ∧ Ly w h (m + 4 + 4 * i.toNat) (fe ((ns.take i.toNat).map numE))) (fun i => ((ns.length : Int) - i).toNat) 0 (by repeat (first | exact Sub.nil | apply Sub.cons rfl)) SubC.nil
      ⟨by omega, by omega, rfl, hg1, hl1⟩ ?_
    rintro i h df ⟨hi0, hin, rfl, hg, hl⟩
    refine x_seq (x_seq (x_region rfl rfl (xr_run 2 rfl rfl (xr_pure (asked0 rfl) (pLen rfl rfl rfl ha1) rfl rfl rfl (xr_run 1 rfl rfl (xr_end ?_))))))
    apply x_nf
    repeat (first | exact NF.nil rfl | apply NF.v rfl | apply NF.lr rfl | apply NF.no rfl)
    refine x_cond rfl (fun hlt => ?_) (fun hlt => ?_)
    · have hlt := of_decide_eq_true hlt
      have hi : i.toNat < ns.length := by omega
      obtain ⟨p, hp1, hp2⟩ := ha.idx (T := tis) (t := 23) rfl rfl hi0 (by rw [hlen]; exact hi)
      have hrd := hp2 h (hg.grow g hw0)
      have hel : (ints ns)[i.toNat]'(by rw [hlen]; exact hi) = [.int .i64 ns[i.toNat]] := by simp [ints]
      rw [hel] at hrd
      obtain ⟨r, hp3, hc3, rfl, hg3, h3⟩ := lNumber_ok w _ ns[i.toNat] _ h hl (by omega)
      refine x_skip (x_seq (x_block (x_region rfl rfl (xr_run 3 rfl rfl (xr_pure (asked0 rfl) (pIndexAddr rfl rfl hp1) rfl rfl rfl (xr_pure (asked0 rfl) (pLoadV rfl rfl hrd rfl) rfl rfl rfl ?_))))))
      refine xr_call (asked0 rfl) rfl rfl rfl rfl hc3 rk_nil (xr_end ?_)
      apply x_nf
      repeat (first | exact NF.nil rfl | apply NF.v rfl | apply NF.lr rfl | apply NF.no rfl)
      refine x_region rfl rfl (xr_run 2 rfl rfl ?_)
      rw [fwrap_i64 (by omega) (by omega)]
      refine xr_run 1 rfl rfl (xr_end ?_)
      have e1 : (i + 1).toNat = i.toNat + 1 := by omega
      refine ⟨i + 1, by show ((ns.length : Int) - (i + 1)).toNat < ((ns.length : Int) - i).toNat; omega, ?_, SubC.nil, by omega, by omega, rfl, hg.trans hg3, ?_⟩
      · repeat (first | exact Sub.nil | apply Sub.cons rfl)
      · rw [e1, List.take_succ_eq_append_getElem hi, List.map_append, fe_append]
        have : fe [fe ((ns.take i.toNat).map numE), numE ns[i.toNat]] = (if fe ((ns.take i.toNat).map numE) = 0 then fe [numE ns[i.toNat]] else fe ((ns.take i.toNat).map numE)) := by simp only [fe]
        rw [this] at h3
        exact h3
    · have hlt := of_decide_eq_false hlt
      refine x_exit (ends_ret rfl rfl ⟨rfl, hg, ?_⟩)
      rw [List.take_of_length_le (by omega)] at hl
      exact hl.mono (by omega)
end Go.Eng.Try

/- STABLE 11: the contracts of folkmootref03's configuration, record, and PutRecord. Written by a program of mine (gen_rec2.py). -/
set_option linter.unusedVariables false
set_option maxHeartbeats 8000000
set_option maxRecDepth 100000
namespace Go.Eng.Try
open Go Go.Proofs Go.Eng

theorem fe_snoc (l : List Int) (b : Int) : fe [fe l, b] = fe (l ++ [b]) := by rw [fe_append]; simp only [fe]
/-- A configuration that is not too long for a machine. -/
def Cfg.fits (c : Cfg) : Prop := c.v.length ≤ 9223372036854775807 ∧ c.l.length ≤ 9223372036854775807
def Rcd.fits (r : Rcd) : Prop := r.e.c.fits ∧ r.s.c.fits
theorem lConfig_ok (w m : Nat) (e : Int) (c : Cfg) (cs : List AV) (hp0 hp : Hp) (hc : CfgAt hp0 c cs) (hf : c.fits) (g : Grow hp0 hp) (hw0 : hp0.n ≤ w) (hw : Ly w hp m e) (hm : m ≤ 1073741824) :
    Ans tis funs hints 62 [.ptr w 0, .agg cs] hp (LPost w hp (m + 32776) (fe [e, c.e])) := by
  match cs, hc with
  | [a, b], ⟨ha, hb⟩ =>
    have ha1 := ha.one
    have hb1 := hb.one
    refine ans_of rfl rfl rfl rfl ?_
    apply x_nf
    repeat (first | exact NF.nil rfl | apply NF.v rfl | apply NF.lr rfl | apply NF.no rfl)
    refine x_seq (x_region rfl rfl (xr_boxL (asked0 rfl) rfl rfl rfl rfl rfl rfl (by simp [AV.cells, ha1, hb1]) rk_nil (xr_end ?_)))
    apply x_nf
    repeat (first | exact NF.nil rfl | apply NF.v rfl | apply NF.lr rfl | apply NF.no rfl)
    obtain ⟨r, hp1, hc1, rfl, hg1, h1⟩ := lSet_ok w m e c.v a hp0 hp ha hf.1 g hw0 hw (by omega)
    refine x_seq (x_region rfl rfl (xr_run 3 rfl rfl ?_))
    refine xr_call (asked0 rfl) rfl rfl rfl rfl hc1 rk_nil (xr_end ?_)
    apply x_nf
    repeat (first | exact NF.nil rfl | apply NF.v rfl | apply NF.lr rfl | apply NF.no rfl)
    obtain ⟨r, hp2, hc2, rfl, hg2, h2⟩ := lSet_ok w _ _ c.l b hp0 hp1 hb hf.2 (hg1.grow g hw0) hw0 h1 (by omega)
    refine x_region rfl rfl (xr_run 3 rfl rfl ?_)
    refine xr_call (asked0 rfl) rfl rfl rfl rfl hc2 rk_nil (xr_end ?_)
    refine ends_ret rfl rfl ⟨rfl, hg1.trans hg2, ?_⟩
    have : fe [e, c.e] = fe [fe [e, setE c.v], setE c.l] := by
      simp only [Cfg.e, fe]
      by_cases h : e = 0 <;> by_cases h' : setE c.v = 0 <;> by_cases h'' : setE c.l = 0 <;> simp [h, h', h'']
    rw [this]
    exact h2.mono (by omega)

theorem lRecord_ok (w m : Nat) (r : Rcd) (cs : List AV) (hp0 hp : Hp) (hr : RcdAt hp0 r cs) (hf : r.fits) (g : Grow hp0 hp) (hw0 : hp0.n ≤ w) (hw : Ly w hp m 0) (hm : m ≤ 1000000) :
    Ans tis funs hints 52 [.ptr w 0, .agg cs] hp (LPost w hp (m + 300000) r.e') := by
  match cs, hr with
  | [k, t, v, e1, e2, e3, e4, e5, e6, i, s1, s2, s3, s4, s5], ⟨hk, ht, hv, ⟨he1, he2, he3, hec, he6⟩, hi, ⟨hs1, hs2, hsc, hs5⟩⟩ =>
    subst hk ht hv he1 he2 he3 he6 hi hs1 hs2 hs5
    have o1 := hec.1.one
    have o2 := hec.2.one
    have o3 := hsc.1.one
    have o4 := hsc.2.one
    refine ans_of rfl rfl rfl rfl ?_
    apply x_nf
    repeat (first | exact NF.nil rfl | apply NF.v rfl | apply NF.lr rfl | apply NF.no rfl)
    refine x_seq (x_region rfl rfl (xr_boxL (asked0 rfl) rfl rfl rfl rfl rfl rfl (by simp only [AV.cells, List.all_cons, List.all_nil, one_int, one_str, o1, o2, o3, o4]; rfl) rk_nil (xr_end ?_)))
    apply x_nf
    repeat (first | exact NF.nil rfl | apply NF.v rfl | apply NF.lr rfl | apply NF.no rfl)
    have hg0 := GL.refl w hp
    have hw_0 : Ly w hp m (fe []) := hw
    obtain ⟨q, hp1, hc1, rfl, hn1, h1⟩ := lNumber_ok w _ r.k _ hp hw_0 (by omega)
    have hg1 := hg0.trans hn1
    rw [fe_snoc] at h1
    have hw_1 : Ly w hp1 (m + 4) (fe [numE r.k]) := h1.mono (by omega)
    refine x_seq (x_region rfl rfl (xr_run 3 rfl rfl ?_))
    refine xr_call (asked0 rfl) rfl rfl rfl rfl hc1 rk_nil (xr_end ?_)
    apply x_nf
    repeat (first | exact NF.nil rfl | apply NF.v rfl | apply NF.lr rfl | apply NF.no rfl)
    obtain ⟨q, hp2, hc2, rfl, hn2, h2⟩ := lNumber_ok w _ r.t _ hp1 hw_1 (by omega)
    have hg2 := hg1.trans hn2
    rw [fe_snoc] at h2
    have hw_2 : Ly w hp2 (m + 8) (fe [numE r.k, numE r.t]) := h2.mono (by omega)
    refine x_seq (x_region rfl rfl (xr_run 3 rfl rfl ?_))
    refine xr_call (asked0 rfl) rfl rfl rfl rfl hc2 rk_nil (xr_end ?_)
    apply x_nf
    repeat (first | exact NF.nil rfl | apply NF.v rfl | apply NF.lr rfl | apply NF.no rfl)
    obtain ⟨q, hp3, hc3, rfl, hn3, h3⟩ := lNumber_ok w _ r.v _ hp2 hw_2 (by omega)
    have hg3 := hg2.trans hn3
    rw [fe_snoc] at h3
    have hw_3 : Ly w hp3 (m + 12) (fe [numE r.k, numE r.t, numE r.v]) := h3.mono (by omega)
    refine x_seq (x_region rfl rfl (xr_run 3 rfl rfl ?_))
    refine xr_call (asked0 rfl) rfl rfl rfl rfl hc3 rk_nil (xr_end ?_)
    apply x_nf
    repeat (first | exact NF.nil rfl | apply NF.v rfl | apply NF.lr rfl | apply NF.no rfl)
    obtain ⟨q, hp4, hc4, rfl, hn4, h4⟩ := lNumber_ok w _ r.e.i _ hp3 hw_3 (by omega)
    have hg4 := hg3.trans hn4
    rw [fe_snoc] at h4
    have hw_4 : Ly w hp4 (m + 16) (fe [numE r.k, numE r.t, numE r.v, numE r.e.i]) := h4.mono (by omega)
    refine x_seq (x_region rfl rfl (xr_run 4 rfl rfl ?_))
    refine xr_call (asked0 rfl) rfl rfl rfl rfl hc4 rk_nil (xr_end ?_)
    apply x_nf
    repeat (first | exact NF.nil rfl | apply NF.v rfl | apply NF.lr rfl | apply NF.no rfl)
    obtain ⟨q, hp5, hc5, rfl, hn5, h5⟩ := lNumber_ok w _ r.e.t _ hp4 hw_4 (by omega)
    have hg5 := hg4.trans hn5
    rw [fe_snoc] at h5
    have hw_5 : Ly w hp5 (m + 20) (fe [numE r.k, numE r.t, numE r.v, numE r.e.i, numE r.e.t]) := h5.mono (by omega)
    refine x_seq (x_region rfl rfl (xr_run 4 rfl rfl ?_))
    refine xr_call (asked0 rfl) rfl rfl rfl rfl hc5 rk_nil (xr_end ?_)
    apply x_nf
    repeat (first | exact NF.nil rfl | apply NF.v rfl | apply NF.lr rfl | apply NF.no rfl)
    obtain ⟨q, hp6, hc6, rfl, hn6, h6⟩ := lNumber_ok w _ r.e.k _ hp5 hw_5 (by omega)
    have hg6 := hg5.trans hn6
    rw [fe_snoc] at h6
    have hw_6 : Ly w hp6 (m + 24) (fe [numE r.k, numE r.t, numE r.v, numE r.e.i, numE r.e.t, numE r.e.k]) := h6.mono (by omega)
    refine x_seq (x_region rfl rfl (xr_run 4 rfl rfl ?_))
    refine xr_call (asked0 rfl) rfl rfl rfl rfl hc6 rk_nil (xr_end ?_)
    apply x_nf
    repeat (first | exact NF.nil rfl | apply NF.v rfl | apply NF.lr rfl | apply NF.no rfl)
    obtain ⟨q, hp7, hc7, rfl, hn7, h7⟩ := lConfig_ok w _ _ r.e.c _ hp0 hp6 hec hf.1 (hg6.grow g hw0) hw0 hw_6 (by omega)
    have hg7 := hg6.trans hn7
    rw [fe_snoc] at h7
    have hw_7 : Ly w hp7 (m + 32800) (fe [numE r.k, numE r.t, numE r.v, numE r.e.i, numE r.e.t, numE r.e.k, r.e.c.e]) := h7.mono (by omega)
    refine x_seq (x_region rfl rfl (xr_run 4 rfl rfl ?_))
    refine xr_call (asked0 rfl) rfl rfl rfl rfl hc7 rk_nil (xr_end ?_)
    apply x_nf
    repeat (first | exact NF.nil rfl | apply NF.v rfl | apply NF.lr rfl | apply NF.no rfl)
    obtain ⟨q, hp8, hc8, rfl, hn8, h8⟩ := lText_ok w _ r.e.d _ hp7 hw_7 (by omega)
    have hg8 := hg7.trans hn8
    rw [fe_snoc] at h8
    have hw_8 : Ly w hp8 (m + 98340) (fe [numE r.k, numE r.t, numE r.v, numE r.e.i, numE r.e.t, numE r.e.k, r.e.c.e, textE r.e.d]) := h8.mono (by omega)
    refine x_seq (x_region rfl rfl (xr_run 4 rfl rfl ?_))
    refine xr_call (asked0 rfl) rfl rfl rfl rfl hc8 rk_nil (xr_end ?_)
    apply x_nf
    repeat (first | exact NF.nil rfl | apply NF.v rfl | apply NF.lr rfl | apply NF.no rfl)
    obtain ⟨q, hp9, hc9, rfl, hn9, h9⟩ := lNumber_ok w _ r.i _ hp8 hw_8 (by omega)
    have hg9 := hg8.trans hn9
    rw [fe_snoc] at h9
    have hw_9 : Ly w hp9 (m + 98344) (fe [numE r.k, numE r.t, numE r.v, numE r.e.i, numE r.e.t, numE r.e.k, r.e.c.e, textE r.e.d, numE r.i]) := h9.mono (by omega)
    refine x_seq (x_region rfl rfl (xr_run 3 rfl rfl ?_))
    refine xr_call (asked0 rfl) rfl rfl rfl rfl hc9 rk_nil (xr_end ?_)
    apply x_nf
    repeat (first | exact NF.nil rfl | apply NF.v rfl | apply NF.lr rfl | apply NF.no rfl)
    obtain ⟨q, hp10, hc10, rfl, hn10, h10⟩ := lNumber_ok w _ r.s.i _ hp9 hw_9 (by omega)
    have hg10 := hg9.trans hn10
    rw [fe_snoc] at h10
    have hw_10 : Ly w hp10 (m + 98348) (fe [numE r.k, numE r.t, numE r.v, numE r.e.i, numE r.e.t, numE r.e.k, r.e.c.e, textE r.e.d, numE r.i, numE r.s.i]) := h10.mono (by omega)
    refine x_seq (x_region rfl rfl (xr_run 4 rfl rfl ?_))
    refine xr_call (asked0 rfl) rfl rfl rfl rfl hc10 rk_nil (xr_end ?_)
    apply x_nf
    repeat (first | exact NF.nil rfl | apply NF.v rfl | apply NF.lr rfl | apply NF.no rfl)
    obtain ⟨q, hp11, hc11, rfl, hn11, h11⟩ := lNumber_ok w _ r.s.t _ hp10 hw_10 (by omega)
    have hg11 := hg10.trans hn11
    rw [fe_snoc] at h11
    have hw_11 : Ly w hp11 (m + 98352) (fe [numE r.k, numE r.t, numE r.v, numE r.e.i, numE r.e.t, numE r.e.k, r.e.c.e, textE r.e.d, numE r.i, numE r.s.i, numE r.s.t]) := h11.mono (by omega)
    refine x_seq (x_region rfl rfl (xr_run 4 rfl rfl ?_))
    refine xr_call (asked0 rfl) rfl rfl rfl rfl hc11 rk_nil (xr_end ?_)
    apply x_nf
    repeat (first | exact NF.nil rfl | apply NF.v rfl | apply NF.lr rfl | apply NF.no rfl)
    obtain ⟨q, hp12, hc12, rfl, hn12, h12⟩ := lConfig_ok w _ _ r.s.c _ hp0 hp11 hsc hf.2 (hg11.grow g hw0) hw0 hw_11 (by omega)
    have hg12 := hg11.trans hn12
    rw [fe_snoc] at h12
    have hw_12 : Ly w hp12 (m + 131128) (fe [numE r.k, numE r.t, numE r.v, numE r.e.i, numE r.e.t, numE r.e.k, r.e.c.e, textE r.e.d, numE r.i, numE r.s.i, numE r.s.t, r.s.c.e]) := h12.mono (by omega)
    refine x_seq (x_region rfl rfl (xr_run 4 rfl rfl ?_))
    refine xr_call (asked0 rfl) rfl rfl rfl rfl hc12 rk_nil (xr_end ?_)
    apply x_nf
    repeat (first | exact NF.nil rfl | apply NF.v rfl | apply NF.lr rfl | apply NF.no rfl)
    obtain ⟨q, hp13, hc13, rfl, hn13, h13⟩ := lText_ok w _ r.s.d _ hp12 hw_12 (by omega)
    have hg13 := hg12.trans hn13
    rw [fe_snoc] at h13
    have hw_13 : Ly w hp13 (m + 196668) (fe [numE r.k, numE r.t, numE r.v, numE r.e.i, numE r.e.t, numE r.e.k, r.e.c.e, textE r.e.d, numE r.i, numE r.s.i, numE r.s.t, r.s.c.e, textE r.s.d]) := h13.mono (by omega)
    refine x_region rfl rfl (xr_run 4 rfl rfl ?_)
    refine xr_call (asked0 rfl) rfl rfl rfl rfl hc13 rk_nil (xr_end ?_)
    exact ends_ret rfl rfl ⟨rfl, hg13, hw_13.mono (by omega)⟩

/-- What is laid, or the error. -/
theorem lOut_ok (w m : Nat) (e : Int) (hp : Hp) (hw : Ly w hp m e) : Ans tis funs hints 53 [.ptr w 0] hp (fun q hp' => hp' = hp ∧ ∃ x es, q = .ret (.tup [x, .int .i64 e]) ∧ SlF (w + 1) hp 1 x es ∧ es.length ≤ m) := by
  obtain ⟨ty, x, es, hwn, hg, hs, hl⟩ := hw
  refine ans_of rfl rfl rfl rfl ?_
  apply x_nf
  repeat (first | exact NF.nil rfl | apply NF.v rfl | apply NF.lr rfl | apply NF.no rfl)
  refine x_seq (x_region rfl rfl (xr_run 2 rfl rfl (xr_end ?_)))
  apply x_nf
  repeat (first | exact NF.nil rfl | apply NF.v rfl | apply NF.lr rfl | apply NF.no rfl)
  refine x_seq (x_seq (x_region rfl rfl (xr_run 3 rfl rfl (xr_pure (asked0 rfl) (pLoadV rfl rfl (rd_ptr hg rfl) rfl) rfl rfl rfl (xr_run 1 rfl rfl (xr_end ?_))))))
  apply x_nf
  repeat (first | exact NF.nil rfl | apply NF.v rfl | apply NF.lr rfl | apply NF.no rfl)
  refine x_cond rfl (fun hc => ?_) (fun hc => ?_)
  · refine x_seq (x_region rfl rfl (xr_run 3 rfl rfl (xr_pure (asked0 rfl) (pLoadV rfl rfl (rd_ptr hg rfl) rfl) rfl rfl rfl (xr_run 2 rfl rfl (xr_end ?_)))))
    apply x_nf
    repeat (first | exact NF.nil rfl | apply NF.v rfl | apply NF.lr rfl | apply NF.no rfl)
    exact x_ret (ends_ret rfl rfl ⟨rfl, .nils, [], rfl, .nil, by simp⟩)
  · have he : e = 0 := by simpa using hc
    refine x_skip (x_seq (x_region rfl rfl (xr_run 3 rfl rfl (xr_pure (asked0 rfl) (pLoadV rfl rfl (rd_ptr hg rfl) rfl) rfl rfl rfl (xr_run 2 rfl rfl (xr_end ?_))))))
    apply x_nf
    repeat (first | exact NF.nil rfl | apply NF.v rfl | apply NF.lr rfl | apply NF.no rfl)
    exact x_ret (ends_ret rfl rfl ⟨rfl, x, es, by rw [he]; rfl, hs, hl⟩)

/-- folkmootref03.PutRecord. -/
theorem refPutRecord_ok (r : Rcd) (cs : List AV) (hp : Hp) (hr : RcdAt hp r cs) (hf : r.fits) : Ans tis funs hints 42 [.agg cs] hp (fun q hp' => ∃ x es, q = .ret (.tup [x, .int .i64 r.e']) ∧ SlF hp.n hp' 1 x es ∧ es.length ≤ 300000 ∧ Grow hp hp') := by
  refine ans_of rfl rfl rfl rfl ?_
  apply x_nf
  repeat (first | exact NF.nil rfl | apply NF.v rfl | apply NF.lr rfl | apply NF.no rfl)
  refine x_seq (x_region rfl rfl (xr_boxL (asked0 rfl) rfl rfl rfl rfl rfl rfl hr.one rk_nil (xr_run 2 rfl rfl (xr_end ?_))))
  apply x_nf
  repeat (first | exact NF.nil rfl | apply NF.v rfl | apply NF.lr rfl | apply NF.no rfl)
  refine x_seq (x_region rfl rfl (xr_run 1 rfl rfl (xr_boxH (asked0 rfl) rfl rfl rfl rfl rfl rfl rk_nil (xr_run 1 rfl rfl (xr_end ?_)))))
  apply x_nf
  repeat (first | exact NF.nil rfl | apply NF.v rfl | apply NF.lr rfl | apply NF.no rfl)
  have g1 : Grow hp (hp.push ⟨82, (AV.agg ti82.zero).cells⟩) := .push _ _
  have gw : (hp.push ⟨82, (AV.agg ti82.zero).cells⟩).get hp.n = some ⟨82, [.nils, .int .i64 0]⟩ := by rw [Hp.get_push, if_pos rfl]; rfl
  obtain ⟨q, hp2, hc, rfl, hg2, h2⟩ := lRecord_ok hp.n 0 r cs hp _ hr hf g1 (Nat.le_refl _) ⟨82, .nils, [], by rw [push_n]; omega, gw, .nil, Nat.le_refl _⟩ (by omega)
  refine x_seq (x_region rfl rfl (xr_run 1 rfl rfl (xr_pure (asked0 rfl) (pLoadL rfl rfl rfl (part_all hr.len) rfl) rfl rfl rfl ?_)))
  refine xr_call (asked0 rfl) rfl rfl rfl rfl hc rk_nil (xr_end ?_)
  apply x_nf
  repeat (first | exact NF.nil rfl | apply NF.v rfl | apply NF.lr rfl | apply NF.no rfl)
  obtain ⟨q, hp3, hc3, rfl, x, es, rfl, h3, h4⟩ := lOut_ok hp.n _ _ hp2 h2
  refine x_seq (x_region rfl rfl (xr_run 1 rfl rfl ?_))
  refine xr_call (asked0 rfl) rfl rfl rfl rfl hc3 rk_nil (xr_run 4 rfl rfl (xr_end ?_))
  apply x_nf
  repeat (first | exact NF.nil rfl | apply NF.v rfl | apply NF.lr rfl | apply NF.no rfl)
  exact x_ret (ends_ret rfl rfl ⟨x, es, rfl, h3.weak (by omega), by omega, hg2.grow g1 (Nat.le_refl _)⟩)
end Go.Eng.Try

/- The zero cells of the program's types, in the second kind. -/
set_option maxRecDepth 10000
namespace Go.Eng.Try
open Go Go.Proofs Go.Eng
def zb1 : List BV := [.nilfn]
def zb2 : List BV := [.int .i64 0]
def zb3 : List BV := [.int .i64 0]
def zb4 : List BV := [.bool false]
def zb5 : List BV := [.int .u8 0]
def zb6 : List BV := [.int .u8 0]
def zb7 : List BV := [.int .i64 0, .int .i64 0, .bool false, .int .u8 0]
def zb8 : List BV := [.int .i64 0, .int .i64 0, .bool false, .int .u8 0]
def zb9 : List BV := [.str []]
def zb10 : List BV := [.str []]
def zb11 : List BV := [.str []]
def zb12 : List BV := [.int .u64 0]
def zb13 : List BV := [.str [], .int .u64 0]
def zb14 : List BV := [.str [], .int .u64 0]
def zb15 : List BV := [.nilp]
def zb16 : List BV := [.nilp]
def zb17 : List BV := [.nilp]
def zb18 : List BV := [.nilp]
def zb19 : List BV := [.nilp]
def zb20 : List BV := [.nilif]
def zb21 : List BV := [.int .i32 0]
def zb22 : List BV := [.ls [] 1 0 0]
def zb23 : List BV := [.ls [] 1 0 0]
def zb24 : List BV := [.ls [] 1 0 0, .ls [] 1 0 0]
def zb25 : List BV := [.ls [] 1 0 0, .ls [] 1 0 0]
def zb26 : List BV := [.int .i64 0, .int .i64 0, .ls [] 1 0 0, .ls [] 1 0 0, .str []]
def zb27 : List BV := [.int .i64 0, .int .i64 0, .ls [] 1 0 0, .ls [] 1 0 0, .str []]
def zb28 : List BV := [.ls [] 6 0 0]
def zb29 : List BV := [.int .i64 0, .int .i64 0, .int .i64 0, .int .i64 0, .ls [] 1 0 0, .ls [] 1 0 0, .str [], .ls [] 6 0 0]
def zb30 : List BV := [.int .i64 0, .int .i64 0, .int .i64 0, .int .i64 0, .ls [] 1 0 0, .ls [] 1 0 0, .str [], .ls [] 6 0 0]
def zb31 : List BV := [.int .i64 0]
def zb32 : List BV := [.int .i64 0]
def zb33 : List BV := [.int .i64 0, .int .i64 0, .int .i64 0, .ls [] 1 0 0, .ls [] 1 0 0, .str []]
def zb34 : List BV := [.int .i64 0, .int .i64 0, .int .i64 0, .ls [] 1 0 0, .ls [] 1 0 0, .str []]
def zb35 : List BV := [.int .i64 0, .int .i64 0, .int .i64 0, .int .i64 0, .int .i64 0, .int .i64 0, .ls [] 1 0 0, .ls [] 1 0 0, .str [], .int .i64 0, .int .i64 0, .int .i64 0, .ls [] 1 0 0, .ls [] 1 0 0, .str []]
def zb36 : List BV := [.int .i64 0, .int .i64 0, .int .i64 0, .int .i64 0, .int .i64 0, .int .i64 0, .ls [] 1 0 0, .ls [] 1 0 0, .str [], .int .i64 0, .int .i64 0, .int .i64 0, .ls [] 1 0 0, .ls [] 1 0 0, .str []]
def zb37 : List BV := [.nilfn]
def zb38 : List BV := [.nilfn]
def zb39 : List BV := [.int .i64 0]
def zb41 : List BV := [.nilfn]
def zb42 : List BV := [.nilfn]
def zb43 : List BV := [.nilfn]
def zb44 : List BV := [.nilfn]
def zb45 : List BV := [.nilfn]
def zb46 : List BV := [.nilfn]
def zb47 : List BV := [.nilfn]
def zb48 : List BV := [.nilfn]
def zb49 : List BV := [.nilfn]
def zb50 : List BV := [.nilfn]
def zb51 : List BV := [.nilfn]
def zb52 : List BV := [.nilfn]
def zb53 : List BV := [.nilfn]
def zb54 : List BV := [.nilfn]
def zb55 : List BV := [.nilfn]
def zb56 : List BV := [.nilfn]
def zb57 : List BV := [.ls [] 15 0 0]
def zb58 : List BV := [.nilfn]
def zb59 : List BV := [.ls [] 1 0 0]
def zb61 : List BV := [.nilfn]
def zb62 : List BV := [.nilfn]
def zb63 : List BV := [.nilp]
def zb64 : List BV := [.nilp]
def zb65 : List BV := [.int .i64 0, .int .i64 0, .int .i64 0, .int .i64 0, .ls [] 1 0 0, .ls [] 1 0 0, .str [], .ls [] 6 0 0, .int .i64 0, .int .i64 0, .int .i64 0, .int .i64 0, .int .i64 0, .int .i64 0, .ls [] 1 0 0, .ls [] 1 0 0, .str [], .int .i64 0, .int .i64 0, .int .i64 0, .ls [] 1 0 0, .ls [] 1 0 0, .str []]
def zb66 : List BV := [.int .i64 0, .int .i64 0, .int .i64 0, .int .i64 0, .ls [] 1 0 0, .ls [] 1 0 0, .str [], .ls [] 6 0 0, .int .i64 0, .int .i64 0, .int .i64 0, .int .i64 0, .int .i64 0, .int .i64 0, .ls [] 1 0 0, .ls [] 1 0 0, .str [], .int .i64 0, .int .i64 0, .int .i64 0, .ls [] 1 0 0, .ls [] 1 0 0, .str []]
def zb67 : List BV := [.nilfn]
def zb68 : List BV := [.nilfn]
def zb69 : List BV := [.nilfn]
def zb70 : List BV := [.nilfn]
def zb71 : List BV := [.nilfn]
def zb72 : List BV := [.nilfn]
def zb73 : List BV := [.nilfn]
def zb74 : List BV := [.nilfn]
def zb75 : List BV := [.nilp]
def zb76 : List BV := [.int .i64 0]
def zb77 : List BV := [.int .i64 0]
def zb78 : List BV := [.nilfn]
def zb79 : List BV := [.nilfn]
def zb80 : List BV := [.nilp]
def zb81 : List BV := [.ls [] 1 0 0, .int .i64 0]
def zb82 : List BV := [.ls [] 1 0 0, .int .i64 0]
def zb83 : List BV := [.nilfn]
def zb84 : List BV := [.nilfn]
def zb85 : List BV := [.ls [] 1 0 0]
def zb86 : List BV := [.ls [] 1 0 0]
def zb87 : List BV := [.nilfn]
def zb88 : List BV := [.nilfn]
def zb89 : List BV := [.nilfn]
def zb90 : List BV := [.nilfn]
def zb91 : List BV := [.int .i64 0]
def zb92 : List BV := [.int .i64 0]
def zb93 : List BV := [.nilfn]
def zb94 : List BV := [.nilfn]
def zb95 : List BV := [.nilfn]
def zb96 : List BV := [.nilfn]
def zb98 : List BV := [.nilfn]
def zb99 : List BV := [.nilfn]
def zb100 : List BV := [.nilfn]
def zb101 : List BV := [.nilfn]
def zb102 : List BV := [.int .u64 0]
def zb103 : List BV := [.nilfn]
def zb104 : List BV := [.nilfn]
def zb105 : List BV := [.nilfn]
def zb106 : List BV := [.nilp, .nilp, .nilp, .str []]
def zb107 : List BV := [.nilp, .nilp, .nilp, .str []]
def zb108 : List BV := []
def zb109 : List BV := []
def zb110 : List BV := []
def zb111 : List BV := [.int .u32 0]
def zb112 : List BV := [.int .u8 0]
def zb113 : List BV := [.int .u8 0]
def zb114 : List BV := [.nilfn]
def zb115 : List BV := [.nilp]
def zb116 : List BV := [.int .i32 0]
def zb117 : List BV := [.int .i32 0]
def zb118 : List BV := [.int .u64 0, .int .u64 0, .int .u32 0, .int .u8 0, .int .u8 0, .int .u8 0, .int .u8 0, .nilfn, .nilp, .int .i32 0, .int .i32 0]
def zb119 : List BV := [.int .u64 0, .int .u64 0, .int .u32 0, .int .u8 0, .int .u8 0, .int .u8 0, .int .u8 0, .nilfn, .nilp, .int .i32 0, .int .i32 0]
def zb120 : List BV := [.nilfn]
def zTree : Tr (List BV) := (.node (none) (.node (some zb1) (.node (some zb3) (.node (some zb7) (.node (some zb15) (.node (some zb31) (.node (some zb63) .leaf .leaf) (.node (some zb95) .leaf .leaf)) (.node (some zb47) (.node (some zb79) .leaf .leaf) (.node (some zb111) .leaf .leaf))) (.node (some zb23) (.node (some zb39) (.node (some zb71) .leaf .leaf) (.node (some zb103) .leaf .leaf)) (.node (some zb55) (.node (some zb87) .leaf .leaf) (.node (some zb119) .leaf .leaf)))) (.node (some zb11) (.node (some zb19) (.node (some zb35) (.node (some zb67) .leaf .leaf) (.node (some zb99) .leaf .leaf)) (.node (some zb51) (.node (some zb83) .leaf .leaf) (.node (some zb115) .leaf .leaf))) (.node (some zb27) (.node (some zb43) (.node (some zb75) .leaf .leaf) (.node (some zb107) .leaf .leaf)) (.node (some zb59) (.node (some zb91) .leaf .leaf) .leaf)))) (.node (some zb5) (.node (some zb9) (.node (some zb17) (.node (some zb33) (.node (some zb65) .leaf .leaf) .leaf) (.node (some zb49) (.node (some zb81) .leaf .leaf) (.node (some zb113) .leaf .leaf))) (.node (some zb25) (.node (some zb41) (.node (some zb73) .leaf .leaf) (.node (some zb105) .leaf .leaf)) (.node (some zb57) (.node (some zb89) .leaf .leaf) .leaf))) (.node (some zb13) (.node (some zb21) (.node (some zb37) (.node (some zb69) .leaf .leaf) (.node (some zb101) .leaf .leaf)) (.node (some zb53) (.node (some zb85) .leaf .leaf) (.node (some zb117) .leaf .leaf))) (.node (some zb29) (.node (some zb45) (.node (some zb77) .leaf .leaf) (.node (some zb109) .leaf .leaf)) (.node (some zb61) (.node (some zb93) .leaf .leaf) .leaf))))) (.node (some zb2) (.node (some zb4) (.node (some zb8) (.node (some zb16) (.node (some zb32) (.node (some zb64) .leaf .leaf) (.node (some zb96) .leaf .leaf)) (.node (some zb48) (.node (some zb80) .leaf .leaf) (.node (some zb112) .leaf .leaf))) (.node (some zb24) (.node (none) (.node (some zb72) .leaf .leaf) (.node (some zb104) .leaf .leaf)) (.node (some zb56) (.node (some zb88) .leaf .leaf) (.node (some zb120) .leaf .leaf)))) (.node (some zb12) (.node (some zb20) (.node (some zb36) (.node (some zb68) .leaf .leaf) (.node (some zb100) .leaf .leaf)) (.node (some zb52) (.node (some zb84) .leaf .leaf) (.node (some zb116) .leaf .leaf))) (.node (some zb28) (.node (some zb44) (.node (some zb76) .leaf .leaf) (.node (some zb108) .leaf .leaf)) (.node (none) (.node (some zb92) .leaf .leaf) .leaf)))) (.node (some zb6) (.node (some zb10) (.node (some zb18) (.node (some zb34) (.node (some zb66) .leaf .leaf) (.node (some zb98) .leaf .leaf)) (.node (some zb50) (.node (some zb82) .leaf .leaf) (.node (some zb114) .leaf .leaf))) (.node (some zb26) (.node (some zb42) (.node (some zb74) .leaf .leaf) (.node (some zb106) .leaf .leaf)) (.node (some zb58) (.node (some zb90) .leaf .leaf) .leaf))) (.node (some zb14) (.node (some zb22) (.node (some zb38) (.node (some zb70) .leaf .leaf) (.node (some zb102) .leaf .leaf)) (.node (some zb54) (.node (some zb86) .leaf .leaf) (.node (some zb118) .leaf .leaf))) (.node (some zb30) (.node (some zb46) (.node (some zb78) .leaf .leaf) (.node (some zb110) .leaf .leaf)) (.node (some zb62) (.node (some zb94) .leaf .leaf) .leaf))))))
def zbs (t : Nat) : Option (List BV) := zTree.get t
end Go.Eng.Try

/- Structures of the program, as cells. Printed by shal.py. -/
set_option linter.unusedVariables false
set_option maxHeartbeats 1000000
set_option maxRecDepth 4000
namespace Go.Eng.Try
open Go Go.Proofs Go.Eng
structure Config where
  Voters : List Int
  Learners : List Int
  deriving DecidableEq
def Config.cells (m : Nat) (x : Config) : List BV := [.ls (List.map ci x.Voters) 1 0 m, .ls (List.map ci x.Learners) 1 0 m]
def Config.row (x : Config) : List BV := Config.cells 0 x
structure Entry where
  Index : Int
  Term : Int
  Kind : Int
  Config : Config
  Data : List UInt8
  deriving DecidableEq
def Entry.cells (m : Nat) (x : Entry) : List BV := [.int .i64 x.Index, .int .i64 x.Term, .int .i64 x.Kind, .ls (List.map ci x.Config.Voters) 1 0 m, .ls (List.map ci x.Config.Learners) 1 0 m, .str x.Data]
def Entry.row (x : Entry) : List BV := Entry.cells 0 x
def Entry.bcells (m : Nat) (x : Entry) : List BV := [.ai .i64, .ai .i64, .ai .i64, .ls (List.map cib x.Config.Voters) 1 0 m, .ls (List.map cib x.Config.Learners) 1 0 m, .sx]
def Entry.brow (x : Entry) : List BV := Entry.bcells 0 x
theorem Entry.bl (x : Entry) : ∀ y ∈ Entry.brow x, BlN y := fa_cons .ai (fa_cons .ai (fa_cons .ai (fa_cons (.ls (bl_rows cib_bl)) (fa_cons (.ls (bl_rows cib_bl)) (fa_cons .sx fa_nil)))))
theorem Entry.bwk (x : Entry) : L2 WkN (Entry.row x) (Entry.brow x) := .cons .ai (.cons .ai (.cons .ai (.cons (.rows cib_wk) (.cons (.rows cib_wk) (.cons .sx .nil)))))
structure Snapshot where
  Index : Int
  Term : Int
  Config : Config
  Data : List UInt8
  deriving DecidableEq
def Snapshot.cells (m : Nat) (x : Snapshot) : List BV := [.int .i64 x.Index, .int .i64 x.Term, .ls (List.map ci x.Config.Voters) 1 0 m, .ls (List.map ci x.Config.Learners) 1 0 m, .str x.Data]
def Snapshot.row (x : Snapshot) : List BV := Snapshot.cells 0 x
structure Kept where
  Term : Int
  Vote : Int
  Snap : Snapshot
  Entries : List Entry
  deriving DecidableEq
def Kept.cells (m : Nat) (x : Kept) : List BV := [.int .i64 x.Term, .int .i64 x.Vote, .int .i64 x.Snap.Index, .int .i64 x.Snap.Term, .ls (List.map ci x.Snap.Config.Voters) 1 0 m, .ls (List.map ci x.Snap.Config.Learners) 1 0 m, .str x.Snap.Data, .ls (List.map Entry.row x.Entries) 6 0 m]
def Kept.row (x : Kept) : List BV := Kept.cells 0 x
structure Record where
  Kind : Int
  Term : Int
  Vote : Int
  Entry : Entry
  Index : Int
  Snap : Snapshot
  deriving DecidableEq
def Record.cells (m : Nat) (x : Record) : List BV := [.int .i64 x.Kind, .int .i64 x.Term, .int .i64 x.Vote, .int .i64 x.Entry.Index, .int .i64 x.Entry.Term, .int .i64 x.Entry.Kind, .ls (List.map ci x.Entry.Config.Voters) 1 0 m, .ls (List.map ci x.Entry.Config.Learners) 1 0 m, .str x.Entry.Data, .int .i64 x.Index, .int .i64 x.Snap.Index, .int .i64 x.Snap.Term, .ls (List.map ci x.Snap.Config.Voters) 1 0 m, .ls (List.map ci x.Snap.Config.Learners) 1 0 m, .str x.Snap.Data]
def Record.row (x : Record) : List BV := Record.cells 0 x
structure Fault where
  e_ : Int
  deriving DecidableEq
def Fault.cells (m : Nat) (x : Fault) : List BV := [.int .i64 x.e_]
def Fault.row (x : Fault) : List BV := Fault.cells 0 x
structure Fold where
  k : Kept
  r_ : Record
  deriving DecidableEq
def Fold.cells (m : Nat) (x : Fold) : List BV := [.int .i64 x.k.Term, .int .i64 x.k.Vote, .int .i64 x.k.Snap.Index, .int .i64 x.k.Snap.Term, .ls (List.map ci x.k.Snap.Config.Voters) 1 0 m, .ls (List.map ci x.k.Snap.Config.Learners) 1 0 m, .str x.k.Snap.Data, .ls (List.map Entry.row x.k.Entries) 6 0 m, .int .i64 x.r_.Kind, .int .i64 x.r_.Term, .int .i64 x.r_.Vote, .int .i64 x.r_.Entry.Index, .int .i64 x.r_.Entry.Term, .int .i64 x.r_.Entry.Kind, .ls (List.map ci x.r_.Entry.Config.Voters) 1 0 m, .ls (List.map ci x.r_.Entry.Config.Learners) 1 0 m, .str x.r_.Entry.Data, .int .i64 x.r_.Index, .int .i64 x.r_.Snap.Index, .int .i64 x.r_.Snap.Term, .ls (List.map ci x.r_.Snap.Config.Voters) 1 0 m, .ls (List.map ci x.r_.Snap.Config.Learners) 1 0 m, .str x.r_.Snap.Data]
def Fold.row (x : Fold) : List BV := Fold.cells 0 x
end Go.Eng.Try

/- STABLE: PutRecord of wire and of folkmootref03, over structures. -/
set_option linter.unusedVariables false
namespace Go.Eng.Try
open Go Go.Proofs Go.Eng

def Config.cfg (c : Config) : Cfg := ⟨c.Voters, c.Learners⟩
def Record.rcd (r : Record) : Rcd := ⟨r.Kind, r.Term, r.Vote, ⟨r.Entry.Index, r.Entry.Term, r.Entry.Kind, r.Entry.Config.cfg, r.Entry.Data⟩, r.Index, ⟨r.Snap.Index, r.Snap.Term, r.Snap.Config.cfg, r.Snap.Data⟩⟩
theorem rcd_at {G : Gh} {h : Hp} {m : Nat} {r : Record} {cs : List AV} (v : VBs G h cs (Record.cells m r)) : RcdAt h r.rcd cs := by
  obtain ⟨_, _, rfl, v1, v⟩ := L2.cons_r v
  obtain ⟨_, _, rfl, v2, v⟩ := L2.cons_r v
  obtain ⟨_, _, rfl, v3, v⟩ := L2.cons_r v
  obtain ⟨_, _, rfl, v4, v⟩ := L2.cons_r v
  obtain ⟨_, _, rfl, v5, v⟩ := L2.cons_r v
  obtain ⟨_, _, rfl, v6, v⟩ := L2.cons_r v
  obtain ⟨_, _, rfl, v7, v⟩ := L2.cons_r v
  obtain ⟨_, _, rfl, v8, v⟩ := L2.cons_r v
  obtain ⟨_, _, rfl, v9, v⟩ := L2.cons_r v
  obtain ⟨_, _, rfl, v10, v⟩ := L2.cons_r v
  obtain ⟨_, _, rfl, v11, v⟩ := L2.cons_r v
  obtain ⟨_, _, rfl, v12, v⟩ := L2.cons_r v
  obtain ⟨_, _, rfl, v13, v⟩ := L2.cons_r v
  obtain ⟨_, _, rfl, v14, v⟩ := L2.cons_r v
  obtain ⟨_, _, rfl, v15, v⟩ := L2.cons_r v
  rw [v.nil_r]
  exact ⟨vb_int v1, vb_int v2, vb_int v3, ⟨vb_int v4, vb_int v5, vb_int v6, ⟨sl_of v7, sl_of v8⟩, vb_str v9⟩, vb_int v10, vb_int v11, vb_int v12, ⟨sl_of v13, sl_of v14⟩, vb_str v15⟩
/-- wire.PutRecord: what it answers beside the bytes. -/
def F30 (r : Record) : Option Int := some r.rcd.e'
theorem f30_ok (r : Record) (y : Int) (h : F30 r = some y) : CallB (evalL tis funs hints) noP 30 [.agg (Record.cells 1 r)] [] (fun q ob => q = .ret (.tup [.any, .int .i64 y]) ∧ ob = []) := by
  cases h
  refine callB_ext ⟨rfl, rfl⟩ fun G hp vs hv => ?_
  obtain ⟨_, _, rfl, v1, v⟩ := L2.cons_r hv
  rw [v.nil_r]
  obtain ⟨cs, rfl, v⟩ := vb_agg v1
  obtain ⟨q, hp', hc, x, es, rfl, _, _, h3⟩ := putRecord_ok r.rcd cs hp (rcd_at v)
  exact ⟨_, hp', hc, h3, fun G' => .tup rfl fun i a b ha hb => match i with
    | 0 => by cases hb; exact .any
    | 1 => by cases ha; cases hb; exact .sc rfl
    | i + 2 => by simp at hb⟩
/-- folkmootref03.PutRecord. -/
def F42 (r : Record) : Option Int := if r.Entry.Config.Voters.length ≤ 9223372036854775807 ∧ r.Entry.Config.Learners.length ≤ 9223372036854775807 ∧ r.Snap.Config.Voters.length ≤ 9223372036854775807 ∧ r.Snap.Config.Learners.length ≤ 9223372036854775807 then some r.rcd.e' else none
theorem f42_ok (r : Record) (y : Int) (h : F42 r = some y) : CallB (evalL tis funs hints) noP 42 [.agg (Record.cells 1 r)] [] (fun q ob => q = .ret (.tup [.any, .int .i64 y]) ∧ ob = []) := by
  unfold F42 at h
  split at h
  · rename_i hf
    cases h
    refine callB_ext ⟨rfl, rfl⟩ fun G hp vs hv => ?_
    obtain ⟨_, _, rfl, v1, v⟩ := L2.cons_r hv
    rw [v.nil_r]
    obtain ⟨cs, rfl, v⟩ := vb_agg v1
    obtain ⟨q, hp', hc, x, es, rfl, _, _, h3⟩ := refPutRecord_ok r.rcd cs hp (rcd_at v) ⟨⟨hf.1, hf.2.1⟩, hf.2.2.1, hf.2.2.2⟩
    exact ⟨_, hp', hc, h3, fun G' => .tup rfl fun i a b ha hb => match i with
      | 0 => by cases hb; exact .any
      | 1 => by cases ha; cases hb; exact .sc rfl
      | i + 2 => by simp at hb⟩
  · cases h
end Go.Eng.Try
